/- s05.py -/
import Derived.Test.YtmfiplnojbjcbaaGreatC04
set_option linter.unusedVariables false
set_option linter.unusedSimpArgs false
set_option maxRecDepth 10000
namespace Go.TQ
open Go.Proofs


theorem szPos (t : Trust) : ¬ SizeOf.sizeOf t ≤ 0 := by cases t; simp
theorem sz_inner {t : Trust} {k : Nat} (h : k < t.inner.length) : SizeOf.sizeOf t.inner[k]! < SizeOf.sizeOf t := by
  have hm : t.inner[k]! ∈ t.inner := by simp [h]
  have := List.sizeOf_lt_of_mem hm
  cases t with | mk a b c =>
    simp only [Trust.inner] at *
    simp only [Trust.mk.sizeOf_spec]
    omega
theorem tget {l : List Trust} {k : Nat} (h : k < l.length) : (l.map Trust.enc)[k]? = some (l[k]!).d := by
  simp [h, Trust.enc_d]
mutual
def Trust.size : Trust → Int
  | .mk _ b c => sizes c ((b.length : Int) + (c.length : Int))
def sizes : List Trust → Int → Int
  | [], n => n
  | t :: ts, n => sizes ts (n + t.size)
end
theorem Trust.size_def (t : Trust) : t.size = sizes t.inner ((t.nodes.length : Int) + (t.inner.length : Int)) := by cases t; simp [Trust.size, Trust.inner, Trust.nodes]
mutual
theorem Trust.size_nn : ∀ (t : Trust), 0 ≤ t.size
  | .mk a b c => by
    rw [Trust.size]
    have := sizes_le c ((b.length : Int) + (c.length : Int))
    omega
theorem sizes_le : ∀ (l : List Trust) (n : Int), n ≤ sizes l n
  | [], n => by rw [sizes]; exact Int.le_refl n
  | t :: ts, n => by
    rw [sizes]
    have h1 := sizes_le ts (n + t.size)
    have h2 := Trust.size_nn t
    omega
end
theorem sizes_drop {l : List Trust} {k : Nat} {n : Int} (h : k < l.length) : sizes (l.drop (k + 1)) (n + l[k]!.size) = sizes (l.drop k) n := by
  rw [List.drop_eq_getElem_cons h, sizes]
  simp [h]
/-- No trust here is large. -/
def Trust.ok (t : Trust) : Prop := t.size ≤ 1000000000
theorem sizes_mem : ∀ (l : List Trust) (n : Int) (x : Trust), x ∈ l → n + x.size ≤ sizes l n
  | t :: ts, n, x, h => by
    rw [sizes]
    rcases List.mem_cons.1 h with rfl | h
    · exact sizes_le ts _
    · have := sizes_mem ts (n + t.size) x h
      have := Trust.size_nn t
      omega
theorem Trust.ok_inner {t : Trust} {k : Nat} (h : t.ok) (hk : k < t.inner.length) : t.inner[k]!.ok := by
  have := sizes_mem t.inner ((t.nodes.length : Int) + (t.inner.length : Int)) t.inner[k]! (by simp [hk])
  rw [← Trust.size_def] at this
  unfold Trust.ok at *
  omega
theorem Trust.ok_len {t : Trust} (h : t.ok) : (t.nodes.length : Int) + (t.inner.length : Int) ≤ 1000000000 := by
  have := sizes_le t.inner ((t.nodes.length : Int) + (t.inner.length : Int))
  rw [← Trust.size_def] at this
  unfold Trust.ok at h
  omega
mutual
def Trust.depth : Trust → Int
  | .mk _ _ c => depths c 0 + 1
def depths : List Trust → Int → Int
  | [], n => n
  | t :: ts, n => depths ts (max n t.depth)
end
theorem Trust.depth_def (t : Trust) : t.depth = depths t.inner 0 + 1 := by cases t; simp [Trust.depth, Trust.inner]
theorem depths_drop {l : List Trust} {k : Nat} {n : Int} (h : k < l.length) : depths (l.drop (k + 1)) (max n l[k]!.depth) = depths (l.drop k) n := by
  rw [List.drop_eq_getElem_cons h, depths]
  simp [h]
mutual
theorem Trust.depth_le : ∀ (t : Trust), 1 ≤ t.depth ∧ t.depth ≤ t.size + 1
  | .mk a b c => by
    have h := depths_le c 0 ((b.length : Int) + (c.length : Int))
    rw [Trust.depth, Trust.size]
    omega
theorem depths_le : ∀ (l : List Trust) (n m : Int), n ≤ depths l n ∧ (n ≤ m → (l.length : Int) ≤ m → depths l n ≤ sizes l m)
  | [], n, m => by rw [depths, sizes]; exact ⟨Int.le_refl n, fun h _ => h⟩
  | t :: ts, n, m => by
    rw [depths, sizes]
    have h1 := depths_le ts (max n t.depth) (m + t.size)
    have h2 := Trust.depth_le t
    have h3 := Trust.size_nn t
    simp only [List.length_cons]
    refine ⟨by omega, fun h4 h5 => h1.2 (by omega) (by omega)⟩
end
theorem depths_bound {t : Trust} (h : t.ok) : depths t.inner 0 ≤ 1000000000 := by
  have h2 := Trust.depth_le t
  rw [Trust.depth_def] at h2
  unfold Trust.ok at h
  omega
mutual
def Trust.same : Trust → Trust → Bool
  | .mk a b c, .mk a' b' c' => decide (a = a') && (decide (b = b') && sames c c')
def sames : List Trust → List Trust → Bool
  | [], [] => true
  | t :: ts, u :: us => t.same u && sames ts us
  | [], _ :: _ => false
  | _ :: _, [] => false
end
mutual
theorem Trust.same_iff : ∀ (t u : Trust), t.same u = true ↔ t = u
  | .mk a b c, .mk a' b' c' => by
    rw [Trust.same]
    simp [sames_iff c c']
theorem sames_iff : ∀ (l m : List Trust), sames l m = true ↔ l = m
  | [], [] => by simp [sames]
  | t :: ts, u :: us => by rw [sames]; simp [Trust.same_iff t u, sames_iff ts us]
  | [], _ :: _ => by simp [sames]
  | _ :: _, [] => by simp [sames]
end
instance : DecidableEq Trust := fun t u => match h : t.same u with
  | true => .isTrue ((Trust.same_iff t u).1 h)
  | false => .isFalse (fun e => by rw [(Trust.same_iff t u).2 e] at h; cases h)

theorem c_trustquorumref02_Size_aux (N : Nat) : ∀ (t : Trust) (hok : t.ok), SizeOf.sizeOf t ≤ N → ACalls Tryz.prog 75 [.aggd t.d] [] fun dd bb => dd = VI (t.size) ∧ bb = [] := by
  induction N with
  | zero => intro t hok hN; exact absurd hN (szPos t)
  | succ N ih =>
  intro t hok hN
  have hlen : ((iRows t.nodes).length : Int) + ((t.inner.map Trust.enc).length : Int) ≤ 1000000000 := by simpa using Trust.ok_len hok
  have hz0 := hok
  refine zai Tryz.func75 rfl Tryz.ntmps75 (by rw [Tryz.results75]) rfl rfl (fun w0 A0 X => ?_)
  refine zsr ?_
  refine zc rfl (zbx (zt rfl) rfl rfl ?_)
  refine zc rfl (zas (zi zdc) rfl ?_)
  refine zn0 ?_
  refine zsr ?_
  refine zc rfl (zfa (o := 1) (zt rfl) zk rfl ?_)
  refine zc rfl (zl1 (zt rfl) zk rfl rfl rfl ?_)
  refine zc rfl (zln (e := 3) (n := 1) (zt rfl) rfl zk rfl (fun hl => ?_))
  refine zc rfl (zfa (o := 2) (zt rfl) zk rfl ?_)
  refine zc rfl (zl1 (zt rfl) zk rfl rfl rfl ?_)
  refine zc rfl (zln (e := 34) (n := 3) (zt rfl) rfl zk rfl (fun hl => ?_))
  refine zc rfl (zar (zt rfl) (zt rfl) rfl (ink64 (by omega) (by omega)) rfl ?_)
  refine zc rfl (zas (zt rfl) rfl ?_)
  refine zn0 ?_
  refine zw2 ?_
  refine zsr ?_
  refine zc rfl (zfa (o := 2) (zt rfl) zk rfl ?_)
  refine zc rfl (zl1 (zt rfl) zk rfl rfl rfl ?_)
  refine zc rfl (zln (e := 34) (n := 3) (zt rfl) rfl zk rfl (fun hl => ?_))
  refine zc rfl (zmv (zi zdc) rfl ?_)
  refine zn0 ?_
  refine zwb ?_
  refine awp_loop (ι := Nat × Int) (fun x => St.of [(14, VR (t.inner.map Trust.enc)), (15, VI ((t.inner.map Trust.enc).length : Int)), (16, VI ((x.1 : Nat) : Int)), (3, VI (x.2))] [] []) (fun x => x.1 ≤ (t.inner.map Trust.enc).length ∧ (sizes (t.inner.drop x.1) x.2 = t.size ∧ 0 ≤ x.2)) (fun x => (t.inner.map Trust.enc).length - x.1) (0, (t.nodes.length : Int) + (t.inner.length : Int)) ?_ ?_ ?_
  · exact le_of (sc rfl (sc (vi_eq rfl rfl) (sc rfl (sc (vi_eq rfl (by simp)) sz)))) xz kz
  · exact ⟨Nat.zero_le _, ⟨t.size_def.symm, by show 0 ≤ (_ : Int) + _; omega⟩⟩
  intro x ⟨hk, ⟨hI, hs⟩⟩
  refine zsr ?_
  refine zc rfl (zcm (zt rfl) (zt rfl) rfl rfl ?_)
  refine zn0 ?_
  refine zw2 ?_
  refine zwc (zt rfl) (fun h1 => ?_) (fun h1 => ?_)
  · skip
    have hlt : x.1 < (t.inner.map Trust.enc).length := by have := of_decide_eq_true h1; omega
    have hl2 : x.1 < t.inner.length := by simpa using hlt
    have hs2 := sizes_le (t.inner.drop (x.1 + 1)) (x.2 + t.inner[x.1]!.size)
    rw [sizes_drop hl2, hI] at hs2
    have hs3 := Trust.size_nn t.inner[x.1]!
    unfold Trust.ok at hz0
    refine zws ?_
    refine ztn ?_
    refine zw2 ?_
    refine zwb ?_
    refine zsr ?_
    refine zc rfl (op_indexAddr (e := 34) (n := 3) (zt rfl) rfl (zt rfl) zk (by omega) (show (t.inner.map Trust.enc)[x.1]? = some _ from tget hl2) rfl rfl ?_)
    refine zc rfl (op_load_imm (n := 3) (zt rfl) zk rfl rfl rfl ?_)
    refine zc rfl (zal (cs := [.dat (.int .i64 0), .nilsl, .nilsl]) zk rfl ?_)
    refine zc rfl (zst (n := 3) (zt rfl) (zt rfl) rfl (.inl zk) rfl rfl (zbl rfl) ?_)
    refine zn0 ?_
    refine zre ?_
    refine zc rfl (zmv (zt rfl) rfl ?_)
    refine zc rfl (zld (n := 3) (zt rfl) zk rfl rfl rfl rfl ?_)
    refine zc rfl (zcl zhf (hc (zt rfl) hz) (rs := []) (bxs := []) zdc bz (ih _ (Trust.ok_inner hok hl2) (by have := sz_inner hl2; omega)) rfl rfl rfl (fun d b hd hl => ?_))
    obtain ⟨rfl, rfl⟩ := hd
    refine zc rfl (zar (zt rfl) (zt rfl) rfl (ink64 (by omega) (by omega)) rfl ?_)
    refine zc rfl (zas (zt rfl) rfl ?_)
    refine zn0 ?_
    refine zbn ?_
    refine ztn ?_
    refine zre ?_
    refine zc rfl (zar (zt rfl) (zi zdc) rfl (ink64 (by omega) (by omega)) rfl ?_)
    refine zc rfl (zmv (zt rfl) rfl ?_)
    refine zn0 ?_
    refine ztn ?_
    exact ⟨(x.1 + 1, x.2 + t.inner[x.1]!.size), ⟨by first | omega | (dsimp only; omega), ⟨(sizes_drop hl2).trans hI, by show 0 ≤ x.2 + _; omega⟩⟩, by first | omega | (dsimp only; omega), (le_of (sc rfl (sc rfl (sc rfl (sc rfl sz)))) xz kz)⟩
  · skip
    have hge : x.1 = (t.inner.map Trust.enc).length := by have := of_decide_eq_false h1; omega
    refine zwe ?_
    refine zte ?_
    refine zte ?_
    refine zbk ?_
    refine ztn ?_
    refine zsr ?_
    refine zc rfl (zmv (zt rfl) rfl ?_)
    refine zc rfl (zas (zt rfl) rfl ?_)
    refine zn0 ?_
    refine zwr ?_
    refine zpr [] (res1 (zrt rfl)) rfl lz ?_
    have hkl : x.1 = t.inner.length := by simpa using hge
    have he : t.size = x.2 := by rw [← hI, hkl, List.drop_length, sizes]
    rw [he]
    exact ⟨rfl, rfl⟩
theorem c_trustquorumref02_Size (t : Trust) (hok : t.ok) : ACalls Tryz.prog 75 [.aggd t.d] [] fun dd bb => dd = VI (t.size) ∧ bb = [] := c_trustquorumref02_Size_aux _ t hok (Nat.le_refl _)

theorem c_threshold_Size_aux (N : Nat) : ∀ (t : Trust) (hok : t.ok), SizeOf.sizeOf t ≤ N → ACalls Tryz.prog 108 [.aggd t.d] [] fun dd bb => dd = VI (t.size) ∧ bb = [] := by
  induction N with
  | zero => intro t hok hN; exact absurd hN (szPos t)
  | succ N ih =>
  intro t hok hN
  have hlen : ((iRows t.nodes).length : Int) + ((t.inner.map Trust.enc).length : Int) ≤ 1000000000 := by simpa using Trust.ok_len hok
  have hz0 := hok
  refine zai Tryz.func108 rfl Tryz.ntmps108 (by rw [Tryz.results108]) rfl rfl (fun w0 A0 X => ?_)
  refine zsr ?_
  refine zc rfl (zbx (zt rfl) rfl rfl ?_)
  refine zc rfl (zas (zi zdc) rfl ?_)
  refine zn0 ?_
  refine zsr ?_
  refine zc rfl (zfa (o := 1) (zt rfl) zk rfl ?_)
  refine zc rfl (zl1 (zt rfl) zk rfl rfl rfl ?_)
  refine zc rfl (zln (e := 3) (n := 1) (zt rfl) rfl zk rfl (fun hl => ?_))
  refine zc rfl (zfa (o := 2) (zt rfl) zk rfl ?_)
  refine zc rfl (zl1 (zt rfl) zk rfl rfl rfl ?_)
  refine zc rfl (zln (e := 34) (n := 3) (zt rfl) rfl zk rfl (fun hl => ?_))
  refine zc rfl (zar (zt rfl) (zt rfl) rfl (ink64 (by omega) (by omega)) rfl ?_)
  refine zc rfl (zas (zt rfl) rfl ?_)
  refine zn0 ?_
  refine zw2 ?_
  refine zsr ?_
  refine zc rfl (zfa (o := 2) (zt rfl) zk rfl ?_)
  refine zc rfl (zl1 (zt rfl) zk rfl rfl rfl ?_)
  refine zc rfl (zln (e := 34) (n := 3) (zt rfl) rfl zk rfl (fun hl => ?_))
  refine zc rfl (zmv (zi zdc) rfl ?_)
  refine zn0 ?_
  refine zwb ?_
  refine awp_loop (ι := Nat × Int) (fun x => St.of [(14, VR (t.inner.map Trust.enc)), (15, VI ((t.inner.map Trust.enc).length : Int)), (16, VI ((x.1 : Nat) : Int)), (3, VI (x.2))] [] []) (fun x => x.1 ≤ (t.inner.map Trust.enc).length ∧ (sizes (t.inner.drop x.1) x.2 = t.size ∧ 0 ≤ x.2)) (fun x => (t.inner.map Trust.enc).length - x.1) (0, (t.nodes.length : Int) + (t.inner.length : Int)) ?_ ?_ ?_
  · exact le_of (sc rfl (sc (vi_eq rfl rfl) (sc rfl (sc (vi_eq rfl (by simp)) sz)))) xz kz
  · exact ⟨Nat.zero_le _, ⟨t.size_def.symm, by show 0 ≤ (_ : Int) + _; omega⟩⟩
  intro x ⟨hk, ⟨hI, hs⟩⟩
  refine zsr ?_
  refine zc rfl (zcm (zt rfl) (zt rfl) rfl rfl ?_)
  refine zn0 ?_
  refine zw2 ?_
  refine zwc (zt rfl) (fun h1 => ?_) (fun h1 => ?_)
  · skip
    have hlt : x.1 < (t.inner.map Trust.enc).length := by have := of_decide_eq_true h1; omega
    have hl2 : x.1 < t.inner.length := by simpa using hlt
    have hs2 := sizes_le (t.inner.drop (x.1 + 1)) (x.2 + t.inner[x.1]!.size)
    rw [sizes_drop hl2, hI] at hs2
    have hs3 := Trust.size_nn t.inner[x.1]!
    unfold Trust.ok at hz0
    refine zws ?_
    refine ztn ?_
    refine zw2 ?_
    refine zwb ?_
    refine zsr ?_
    refine zc rfl (op_indexAddr (e := 34) (n := 3) (zt rfl) rfl (zt rfl) zk (by omega) (show (t.inner.map Trust.enc)[x.1]? = some _ from tget hl2) rfl rfl ?_)
    refine zc rfl (op_load_imm (n := 3) (zt rfl) zk rfl rfl rfl ?_)
    refine zc rfl (zal (cs := [.dat (.int .i64 0), .nilsl, .nilsl]) zk rfl ?_)
    refine zc rfl (zst (n := 3) (zt rfl) (zt rfl) rfl (.inl zk) rfl rfl (zbl rfl) ?_)
    refine zn0 ?_
    refine zre ?_
    refine zc rfl (zmv (zt rfl) rfl ?_)
    refine zc rfl (zld (n := 3) (zt rfl) zk rfl rfl rfl rfl ?_)
    refine zc rfl (zcl zhf (hc (zt rfl) hz) (rs := []) (bxs := []) zdc bz (ih _ (Trust.ok_inner hok hl2) (by have := sz_inner hl2; omega)) rfl rfl rfl (fun d b hd hl => ?_))
    obtain ⟨rfl, rfl⟩ := hd
    refine zc rfl (zar (zt rfl) (zt rfl) rfl (ink64 (by omega) (by omega)) rfl ?_)
    refine zc rfl (zas (zt rfl) rfl ?_)
    refine zn0 ?_
    refine zbn ?_
    refine ztn ?_
    refine zre ?_
    refine zc rfl (zar (zt rfl) (zi zdc) rfl (ink64 (by omega) (by omega)) rfl ?_)
    refine zc rfl (zmv (zt rfl) rfl ?_)
    refine zn0 ?_
    refine ztn ?_
    exact ⟨(x.1 + 1, x.2 + t.inner[x.1]!.size), ⟨by first | omega | (dsimp only; omega), ⟨(sizes_drop hl2).trans hI, by show 0 ≤ x.2 + _; omega⟩⟩, by first | omega | (dsimp only; omega), (le_of (sc rfl (sc rfl (sc rfl (sc rfl sz)))) xz kz)⟩
  · skip
    have hge : x.1 = (t.inner.map Trust.enc).length := by have := of_decide_eq_false h1; omega
    refine zwe ?_
    refine zte ?_
    refine zte ?_
    refine zbk ?_
    refine ztn ?_
    refine zsr ?_
    refine zc rfl (zmv (zt rfl) rfl ?_)
    refine zc rfl (zas (zt rfl) rfl ?_)
    refine zn0 ?_
    refine zwr ?_
    refine zpr [] (res1 (zrt rfl)) rfl lz ?_
    have hkl : x.1 = t.inner.length := by simpa using hge
    have he : t.size = x.2 := by rw [← hI, hkl, List.drop_length, sizes]
    rw [he]
    exact ⟨rfl, rfl⟩
theorem c_threshold_Size (t : Trust) (hok : t.ok) : ACalls Tryz.prog 108 [.aggd t.d] [] fun dd bb => dd = VI (t.size) ∧ bb = [] := c_threshold_Size_aux _ t hok (Nat.le_refl _)

theorem c_trustquorumref02_Depth_aux (N : Nat) : ∀ (t : Trust) (hok : t.ok), SizeOf.sizeOf t ≤ N → ACalls Tryz.prog 74 [.aggd t.d] [] fun dd bb => dd = VI (t.depth) ∧ bb = [] := by
  induction N with
  | zero => intro t hok hN; exact absurd hN (szPos t)
  | succ N ih =>
  intro t hok hN
  have hb := depths_bound hok
  refine zai Tryz.func74 rfl Tryz.ntmps74 (by rw [Tryz.results74]) rfl rfl (fun w0 A0 X => ?_)
  refine zsr ?_
  refine zc rfl (zbx (zt rfl) rfl rfl ?_)
  refine zc rfl (zas (zi zdc) rfl ?_)
  refine zn0 ?_
  refine zsr ?_
  refine zc rfl (zas (zi zdc) rfl ?_)
  refine zn0 ?_
  refine zw2 ?_
  refine zsr ?_
  refine zc rfl (zfa (o := 2) (zt rfl) zk rfl ?_)
  refine zc rfl (zl1 (zt rfl) zk rfl rfl rfl ?_)
  refine zc rfl (zln (e := 34) (n := 3) (zt rfl) rfl zk rfl (fun hl => ?_))
  refine zc rfl (zmv (zi zdc) rfl ?_)
  refine zn0 ?_
  refine zwb ?_
  refine awp_loop (ι := Nat × Int) (fun x => St.of [(7, VR (t.inner.map Trust.enc)), (8, VI ((t.inner.map Trust.enc).length : Int)), (9, VI ((x.1 : Nat) : Int)), (3, VI (x.2))] [] []) (fun x => x.1 ≤ (t.inner.map Trust.enc).length ∧ (depths (t.inner.drop x.1) x.2 = depths t.inner 0 ∧ 0 ≤ x.2)) (fun x => (t.inner.map Trust.enc).length - x.1) (0, 0) ?_ ?_ ?_
  · exact (le_of (sc rfl (sc rfl (sc rfl (sc rfl sz)))) xz kz)
  · exact ⟨Nat.zero_le _, ⟨rfl, Int.le_refl 0⟩⟩
  intro x ⟨hk, ⟨hI, hs⟩⟩
  refine zsr ?_
  refine zc rfl (zcm (zt rfl) (zt rfl) rfl rfl ?_)
  refine zn0 ?_
  refine zw2 ?_
  refine zwc (zt rfl) (fun h1 => ?_) (fun h1 => ?_)
  · skip
    have hlt : x.1 < (t.inner.map Trust.enc).length := by have := of_decide_eq_true h1; omega
    have hl2 : x.1 < t.inner.length := by simpa using hlt
    refine zws ?_
    refine ztn ?_
    refine zw2 ?_
    refine zwb ?_
    refine zsr ?_
    refine zc rfl (op_indexAddr (e := 34) (n := 3) (zt rfl) rfl (zt rfl) zk (by omega) (show (t.inner.map Trust.enc)[x.1]? = some _ from tget hl2) rfl rfl ?_)
    refine zc rfl (op_load_imm (n := 3) (zt rfl) zk rfl rfl rfl ?_)
    refine zc rfl (zal (cs := [.dat (.int .i64 0), .nilsl, .nilsl]) zk rfl ?_)
    refine zc rfl (zst (n := 3) (zt rfl) (zt rfl) rfl (.inl zk) rfl rfl (zbl rfl) ?_)
    refine zn0 ?_
    refine zre ?_
    refine zc rfl (zmv (zt rfl) rfl ?_)
    refine zc rfl (zld (n := 3) (zt rfl) zk rfl rfl rfl rfl ?_)
    refine zc rfl (zcl zhf (hc (zt rfl) hz) (rs := []) (bxs := []) zdc bz (ih _ (Trust.ok_inner hok hl2) (by have := sz_inner hl2; omega)) rfl rfl rfl (fun d b hd hl => ?_))
    obtain ⟨rfl, rfl⟩ := hd
    refine zc rfl (op_builtin_max (zt rfl) (zt rfl) rfl ?_)
    refine zc rfl (zas (zt rfl) rfl ?_)
    refine zn0 ?_
    refine zbn ?_
    refine ztn ?_
    refine zre ?_
    refine zc rfl (zar (zt rfl) (zi zdc) rfl (ink64 (by omega) (by omega)) rfl ?_)
    refine zc rfl (zmv (zt rfl) rfl ?_)
    refine zn0 ?_
    refine ztn ?_
    exact ⟨(x.1 + 1, max x.2 t.inner[x.1]!.depth), ⟨by first | omega | (dsimp only; omega), ⟨(depths_drop hl2).trans hI, by show 0 ≤ max x.2 _; omega⟩⟩, by first | omega | (dsimp only; omega), (le_of (sc rfl (sc rfl (sc rfl (sc rfl sz)))) xz kz)⟩
  · skip
    have hge : x.1 = (t.inner.map Trust.enc).length := by have := of_decide_eq_false h1; omega
    have hkl : x.1 = t.inner.length := by simpa using hge
    have he : depths t.inner 0 = x.2 := by rw [← hI, hkl, List.drop_length, depths]
    rw [he] at hb
    refine zwe ?_
    refine zte ?_
    refine zte ?_
    refine zbk ?_
    refine ztn ?_
    refine zsr ?_
    refine zc rfl (zmv (zt rfl) rfl ?_)
    refine zc rfl (zar (zt rfl) (zi zdc) rfl (ink64 (by omega) (by omega)) rfl ?_)
    refine zc rfl (zas (zt rfl) rfl ?_)
    refine zn0 ?_
    refine zwr ?_
    refine zpr [] (res1 (zrt rfl)) rfl lz ?_
    rw [Trust.depth_def, he]
    exact ⟨rfl, rfl⟩
theorem c_trustquorumref02_Depth (t : Trust) (hok : t.ok) : ACalls Tryz.prog 74 [.aggd t.d] [] fun dd bb => dd = VI (t.depth) ∧ bb = [] := c_trustquorumref02_Depth_aux _ t hok (Nat.le_refl _)

theorem c_threshold_Depth_aux (N : Nat) : ∀ (t : Trust) (hok : t.ok), SizeOf.sizeOf t ≤ N → ACalls Tryz.prog 107 [.aggd t.d] [] fun dd bb => dd = VI (t.depth) ∧ bb = [] := by
  induction N with
  | zero => intro t hok hN; exact absurd hN (szPos t)
  | succ N ih =>
  intro t hok hN
  have hb := depths_bound hok
  refine zai Tryz.func107 rfl Tryz.ntmps107 (by rw [Tryz.results107]) rfl rfl (fun w0 A0 X => ?_)
  refine zsr ?_
  refine zc rfl (zbx (zt rfl) rfl rfl ?_)
  refine zc rfl (zas (zi zdc) rfl ?_)
  refine zn0 ?_
  refine zsr ?_
  refine zc rfl (zas (zi zdc) rfl ?_)
  refine zn0 ?_
  refine zw2 ?_
  refine zsr ?_
  refine zc rfl (zfa (o := 2) (zt rfl) zk rfl ?_)
  refine zc rfl (zl1 (zt rfl) zk rfl rfl rfl ?_)
  refine zc rfl (zln (e := 34) (n := 3) (zt rfl) rfl zk rfl (fun hl => ?_))
  refine zc rfl (zmv (zi zdc) rfl ?_)
  refine zn0 ?_
  refine zwb ?_
  refine awp_loop (ι := Nat × Int) (fun x => St.of [(7, VR (t.inner.map Trust.enc)), (8, VI ((t.inner.map Trust.enc).length : Int)), (9, VI ((x.1 : Nat) : Int)), (3, VI (x.2))] [] []) (fun x => x.1 ≤ (t.inner.map Trust.enc).length ∧ (depths (t.inner.drop x.1) x.2 = depths t.inner 0 ∧ 0 ≤ x.2)) (fun x => (t.inner.map Trust.enc).length - x.1) (0, 0) ?_ ?_ ?_
  · exact (le_of (sc rfl (sc rfl (sc rfl (sc rfl sz)))) xz kz)
  · exact ⟨Nat.zero_le _, ⟨rfl, Int.le_refl 0⟩⟩
  intro x ⟨hk, ⟨hI, hs⟩⟩
  refine zsr ?_
  refine zc rfl (zcm (zt rfl) (zt rfl) rfl rfl ?_)
  refine zn0 ?_
  refine zw2 ?_
  refine zwc (zt rfl) (fun h1 => ?_) (fun h1 => ?_)
  · skip
    have hlt : x.1 < (t.inner.map Trust.enc).length := by have := of_decide_eq_true h1; omega
    have hl2 : x.1 < t.inner.length := by simpa using hlt
    refine zws ?_
    refine ztn ?_
    refine zw2 ?_
    refine zwb ?_
    refine zsr ?_
    refine zc rfl (op_indexAddr (e := 34) (n := 3) (zt rfl) rfl (zt rfl) zk (by omega) (show (t.inner.map Trust.enc)[x.1]? = some _ from tget hl2) rfl rfl ?_)
    refine zc rfl (op_load_imm (n := 3) (zt rfl) zk rfl rfl rfl ?_)
    refine zc rfl (zal (cs := [.dat (.int .i64 0), .nilsl, .nilsl]) zk rfl ?_)
    refine zc rfl (zst (n := 3) (zt rfl) (zt rfl) rfl (.inl zk) rfl rfl (zbl rfl) ?_)
    refine zn0 ?_
    refine zre ?_
    refine zc rfl (zmv (zt rfl) rfl ?_)
    refine zc rfl (zld (n := 3) (zt rfl) zk rfl rfl rfl rfl ?_)
    refine zc rfl (zcl zhf (hc (zt rfl) hz) (rs := []) (bxs := []) zdc bz (ih _ (Trust.ok_inner hok hl2) (by have := sz_inner hl2; omega)) rfl rfl rfl (fun d b hd hl => ?_))
    obtain ⟨rfl, rfl⟩ := hd
    refine zc rfl (op_builtin_max (zt rfl) (zt rfl) rfl ?_)
    refine zc rfl (zas (zt rfl) rfl ?_)
    refine zn0 ?_
    refine zbn ?_
    refine ztn ?_
    refine zre ?_
    refine zc rfl (zar (zt rfl) (zi zdc) rfl (ink64 (by omega) (by omega)) rfl ?_)
    refine zc rfl (zmv (zt rfl) rfl ?_)
    refine zn0 ?_
    refine ztn ?_
    exact ⟨(x.1 + 1, max x.2 t.inner[x.1]!.depth), ⟨by first | omega | (dsimp only; omega), ⟨(depths_drop hl2).trans hI, by show 0 ≤ max x.2 _; omega⟩⟩, by first | omega | (dsimp only; omega), (le_of (sc rfl (sc rfl (sc rfl (sc rfl sz)))) xz kz)⟩
  · skip
    have hge : x.1 = (t.inner.map Trust.enc).length := by have := of_decide_eq_false h1; omega
    have hkl : x.1 = t.inner.length := by simpa using hge
    have he : depths t.inner 0 = x.2 := by rw [← hI, hkl, List.drop_length, depths]
    rw [he] at hb
    refine zwe ?_
    refine zte ?_
    refine zte ?_
    refine zbk ?_
    refine ztn ?_
    refine zsr ?_
    refine zc rfl (zmv (zt rfl) rfl ?_)
    refine zc rfl (zar (zt rfl) (zi zdc) rfl (ink64 (by omega) (by omega)) rfl ?_)
    refine zc rfl (zas (zt rfl) rfl ?_)
    refine zn0 ?_
    refine zwr ?_
    refine zpr [] (res1 (zrt rfl)) rfl lz ?_
    rw [Trust.depth_def, he]
    exact ⟨rfl, rfl⟩
theorem c_threshold_Depth (t : Trust) (hok : t.ok) : ACalls Tryz.prog 107 [.aggd t.d] [] fun dd bb => dd = VI (t.depth) ∧ bb = [] := c_threshold_Depth_aux _ t hok (Nat.le_refl _)


def badN (k : Int) : Bool := decide (k < 0) || decide (10 ≤ k)
mutual
def Trust.check : Trust → Int
  | .mk a b c => if (decide (a < 1) || decide ((b.length : Int) + (c.length : Int) < a)) = true then 4 else if b.any badN = true then 5 else if (ofN b 0).2 ≠ 0 then (ofN b 0).2 else checks c
def checks : List Trust → Int
  | [] => 0
  | t :: ts => if t.check ≠ 0 then t.check else checks ts
end
theorem Trust.check_def (t : Trust) : t.check = if (decide (t.thr < 1) || decide ((t.nodes.length : Int) + (t.inner.length : Int) < t.thr)) = true then 4 else if t.nodes.any badN = true then 5 else if (ofN t.nodes 0).2 ≠ 0 then (ofN t.nodes 0).2 else checks t.inner := by
  cases t; rw [Trust.check]; rfl
theorem any_drop_no {l : List Int} {k : Nat} (h : k < l.length) (hb : badN l[k]! = false) : (l.drop (k + 1)).any badN = (l.drop k).any badN := by
  rw [List.drop_eq_getElem_cons h, List.any_cons]
  simp [h] at hb
  simp [hb]
theorem any_here {l : List Int} {k : Nat} (h : k < l.length) (hb : badN l[k]! = true) : (l.drop k).any badN = true := by
  rw [List.drop_eq_getElem_cons h, List.any_cons]
  simp [h] at hb
  simp [hb]
theorem checks_no {l : List Trust} {k : Nat} (h : k < l.length) (hb : l[k]!.check = 0) : checks (l.drop (k + 1)) = checks (l.drop k) := by
  rw [List.drop_eq_getElem_cons h, checks, if_neg (by simpa [h] using hb)]
theorem checks_here {l : List Trust} {k : Nat} (h : k < l.length) (hb : l[k]!.check ≠ 0) : checks (l.drop k) = l[k]!.check := by
  rw [List.drop_eq_getElem_cons h, checks, if_pos (by simpa [h] using hb)]
  simp [h]
def Trust.valid (t : Trust) : Int := if (decide (4 < t.depth) || decide (200 < t.size)) = true then 3 else t.check
def orI (a b : Int) : Int := ((a.toNat ||| b.toNat : Nat) : Int)
theorem orI_nn (a b : Int) : 0 ≤ orI a b := Int.natCast_nonneg _
def useN : List Int → Int → Int
  | [], s => s
  | k :: l, s => useN l (if (decide (0 ≤ k) && decide (k < 10)) = true then orBit s k else s)
mutual
def Trust.uses : Trust → Int
  | .mk _ b c => usesT c (useN b 0)
def usesT : List Trust → Int → Int
  | [], s => s
  | t :: ts, s => usesT ts (orI s t.uses)
end
theorem Trust.uses_def (t : Trust) : t.uses = usesT t.inner (useN t.nodes 0) := by cases t; rw [Trust.uses]; rfl
theorem useN_nn : ∀ (l : List Int) (s : Int), 0 ≤ s → 0 ≤ useN l s
  | [], s, h => h
  | k :: l, s, h => by rw [useN]; apply useN_nn; split; exact orBit_nn _ _; exact h
theorem usesT_nn : ∀ (l : List Trust) (s : Int), 0 ≤ s → 0 ≤ usesT l s
  | [], s, h => by rw [usesT]; exact h
  | t :: ts, s, h => by rw [usesT]; exact usesT_nn ts _ (orI_nn _ _)
theorem Trust.uses_nn (t : Trust) : 0 ≤ t.uses := by rw [Trust.uses_def]; exact usesT_nn _ _ (useN_nn _ _ (Int.le_refl 0))
theorem useN_yes {l : List Int} {k : Nat} {s : Int} (h : k < l.length) (hb : (decide (0 ≤ l[k]!) && decide (l[k]! < 10)) = true) : useN (l.drop (k + 1)) (orBit s l[k]!) = useN (l.drop k) s := by
  rw [List.drop_eq_getElem_cons h, useN, if_pos (by simpa [h] using hb)]; simp [h]
theorem useN_no {l : List Int} {k : Nat} {s : Int} (h : k < l.length) (hb : (decide (0 ≤ l[k]!) && decide (l[k]! < 10)) = false) : useN (l.drop (k + 1)) s = useN (l.drop k) s := by
  rw [List.drop_eq_getElem_cons h, useN, if_neg (by simpa [h] using hb)]
theorem usesT_drop {l : List Trust} {k : Nat} {s : Int} (h : k < l.length) : usesT (l.drop (k + 1)) (orI s l[k]!.uses) = usesT (l.drop k) s := by
  rw [List.drop_eq_getElem_cons h, usesT]; simp [h]
def cntN (s : Int) : List Int → Int → Int
  | [], n => n
  | k :: l, n => cntN s l (if has s k = true then n + 1 else n)
mutual
def Trust.sat (s : Int) : Trust → Bool
  | .mk a b c => validS s && decide (a ≤ sats s c (cntN s b 0))
def sats (s : Int) : List Trust → Int → Int
  | [], n => n
  | t :: ts, n => sats s ts (if t.sat s = true then n + 1 else n)
end
theorem Trust.sat_def (s : Int) (t : Trust) : t.sat s = (validS s && decide (t.thr ≤ sats s t.inner (cntN s t.nodes 0))) := by cases t; rw [Trust.sat]; rfl
theorem cntN_yes {s : Int} {l : List Int} {k : Nat} {n : Int} (h : k < l.length) (hb : has s l[k]! = true) : cntN s (l.drop (k + 1)) (n + 1) = cntN s (l.drop k) n := by
  rw [List.drop_eq_getElem_cons h, cntN, if_pos (by simpa [h] using hb)]
theorem cntN_no {s : Int} {l : List Int} {k : Nat} {n : Int} (h : k < l.length) (hb : has s l[k]! = false) : cntN s (l.drop (k + 1)) n = cntN s (l.drop k) n := by
  rw [List.drop_eq_getElem_cons h, cntN, if_neg (by simpa [h] using hb)]
theorem sats_yes {s : Int} {l : List Trust} {k : Nat} {n : Int} (h : k < l.length) (hb : l[k]!.sat s = true) : sats s (l.drop (k + 1)) (n + 1) = sats s (l.drop k) n := by
  rw [List.drop_eq_getElem_cons h, sats, if_pos (by simpa [h] using hb)]
theorem sats_no {s : Int} {l : List Trust} {k : Nat} {n : Int} (h : k < l.length) (hb : l[k]!.sat s = false) : sats s (l.drop (k + 1)) n = sats s (l.drop k) n := by
  rw [List.drop_eq_getElem_cons h, sats, if_neg (by simpa [h] using hb)]

theorem c_trustquorumref02_Satisfied_aux (N : Nat) : ∀ (t : Trust) (s : Int) (hok : t.ok), SizeOf.sizeOf t ≤ N → ACalls Tryz.prog 72 [.aggd t.d, VI s] [] fun dd bb => dd = VB (t.sat s) ∧ bb = [] := by
  induction N with
  | zero => intro t s hok hN; exact absurd hN (szPos t)
  | succ N ih =>
  intro t s hok hN
  have hlen : (t.nodes.length : Int) + (t.inner.length : Int) ≤ 1000000000 := Trust.ok_len hok
  refine zai Tryz.func72 rfl Tryz.ntmps72 (by rw [Tryz.results72]) rfl rfl (fun w0 A0 X => ?_)
  refine zsr ?_
  refine zc rfl (zbx (zt rfl) rfl rfl ?_)
  refine zc rfl (zas zb0 rfl ?_)
  refine zn0 ?_
  refine zw2 ?_
  refine zsr ?_
  refine zc rfl (zmv (zt rfl) rfl ?_)
  refine zc rfl (zcl zhf (hc (zt rfl) hz) (rs := []) (bxs := []) zdc bz (c_trustquorumref01_Valid s) rfl rfl rfl (fun d b hd hl => ?_))
  obtain ⟨rfl, rfl⟩ := hd
  refine zc rfl (op_not (zt rfl) rfl ?_)
  refine zn0 ?_
  refine zwc (zt rfl) (fun h1 => ?_) (fun h1 => ?_)
  · skip
    have g1 := h1
    try simp only [zbz] at g1
    refine zsr ?_
    refine zc rfl (zas zb0 rfl ?_)
    refine zn0 ?_
    refine zwr ?_
    refine ztr ?_
    refine zpr [] (res1 (zrt rfl)) rfl lz ?_
    have hv : validS s = false := by simpa using h1
    rw [Trust.sat_def, hv]
    exact ⟨rfl, rfl⟩
  · skip
    have g1 := h1
    try simp only [zbz] at g1
    refine zws ?_
    refine ztn ?_
    refine zsr ?_
    refine zc rfl (zas (zi zdc) rfl ?_)
    refine zn0 ?_
    refine zw2 ?_
    refine zsr ?_
    refine zc rfl (zfa (o := 1) (zt rfl) zk rfl ?_)
    refine zc rfl (zl1 (zt rfl) zk rfl rfl rfl ?_)
    refine zc rfl (zln (e := 3) (n := 1) (zt rfl) rfl zk rfl (fun hl => ?_))
    refine zc rfl (zmv (zi zdc) rfl ?_)
    refine zn0 ?_
    refine zwb ?_
    refine awp_loop (ι := Nat × Int) (fun x => St.of [(14, VR (iRows t.nodes)), (15, VI ((iRows t.nodes).length : Int)), (16, VI ((x.1 : Nat) : Int)), (1, VI (s)), (2, .one (.ref (.o 2) 0)), (5, VI (x.2))] [(.o 2, t.d.map C.dat)] []) (fun x => x.1 ≤ (iRows t.nodes).length ∧ (cntN s (t.nodes.drop x.1) x.2 = cntN s t.nodes 0 ∧ 0 ≤ x.2 ∧ x.2 ≤ x.1)) (fun x => (iRows t.nodes).length - x.1) (0, 0) ?_ ?_ ?_
    · exact (le_of (sc rfl (sc rfl (sc rfl (sc rfl (sc rfl (sc rfl sz)))))) (xc rfl xz) kz)
    · exact ⟨Nat.zero_le _, ⟨rfl, Int.le_refl 0, Int.le_refl 0⟩⟩
    intro x ⟨hk, ⟨hI, hs0, hs1⟩⟩
    refine zsr ?_
    refine zc rfl (zcm (zt rfl) (zt rfl) rfl rfl ?_)
    refine zn0 ?_
    refine zw2 ?_
    refine zwc (zt rfl) (fun h2 => ?_) (fun h2 => ?_)
    · skip
      have hlt : x.1 < (iRows t.nodes).length := by have := of_decide_eq_true h2; omega
      have hl1 : x.1 < t.nodes.length := by simpa using hlt
      refine zws ?_
      refine ztn ?_
      refine zw2 ?_
      refine zwb ?_
      refine zsr ?_
      refine zc rfl (op_indexAddr (e := 3) (n := 1) (zt rfl) rfl (zt rfl) zk (by omega) (show (iRows t.nodes)[x.1]? = some _ from map_getD hl1) rfl rfl ?_)
      refine zc rfl (op_load_imm1 (zt rfl) zk rfl rfl ?_)
      refine zc rfl (zas (zt rfl) rfl ?_)
      refine zn0 ?_
      refine zsr ?_
      refine zc rfl (zmv (zt rfl) rfl ?_)
      refine zc rfl (zmv (zt rfl) rfl ?_)
      refine zc rfl (zcl zhf (hc (zt rfl) (hc (zt rfl) hz)) (rs := []) (bxs := []) zdc bz (c_trustquorumref01_Has s _) rfl rfl rfl (fun d b hd hl => ?_))
      obtain ⟨rfl, rfl⟩ := hd
      refine zn0 ?_
      refine zwc (zt rfl) (fun h3 => ?_) (fun h3 => ?_)
      · skip
        obtain ⟨nv, hnv⟩ : ∃ v : Int, v = x.2 + 1 := ⟨_, rfl⟩
        have hn := (cntN_yes (n := x.2) hl1 h3).trans hI
        rw [← hnv] at hn
        refine zre ?_
        refine zc rfl (zmv (zt rfl) rfl ?_)
        refine zc rfl (zar (zt rfl) (zi zdc) rfl (ink64 (by omega) (by omega)) rfl ?_)
        refine zc rfl (zas (zt rfl) rfl ?_)
        refine zn0 ?_
        refine zbn ?_
        refine ztn ?_
        refine zre ?_
        refine zc rfl (zar (zt rfl) (zi zdc) rfl (ink64 (by omega) (by omega)) rfl ?_)
        refine zc rfl (zmv (zt rfl) rfl ?_)
        refine zn0 ?_
        refine ztn ?_
        exact ⟨(x.1 + 1, nv), ⟨by first | omega | (dsimp only; omega), ⟨hn, by dsimp only; omega⟩⟩, by first | omega | (dsimp only; omega), (le_of (sc rfl (sc rfl (sc rfl (sc rfl (sc rfl (sc (vi_eq rfl hnv) sz)))))) (xc rfl xz) kz)⟩
      · skip
        obtain ⟨nv, hnv⟩ : ∃ v : Int, v = x.2 := ⟨_, rfl⟩
        have hn := (cntN_no (n := x.2) hl1 h3).trans hI
        rw [← hnv] at hn
        refine zws ?_
        refine zbn ?_
        refine ztn ?_
        refine zre ?_
        refine zc rfl (zar (zt rfl) (zi zdc) rfl (ink64 (by omega) (by omega)) rfl ?_)
        refine zc rfl (zmv (zt rfl) rfl ?_)
        refine zn0 ?_
        refine ztn ?_
        exact ⟨(x.1 + 1, nv), ⟨by first | omega | (dsimp only; omega), ⟨hn, by dsimp only; omega⟩⟩, by first | omega | (dsimp only; omega), (le_of (sc rfl (sc rfl (sc rfl (sc rfl (sc rfl (sc (vi_eq rfl hnv) sz)))))) (xc rfl xz) kz)⟩
    · skip
      have hge : x.1 = (iRows t.nodes).length := by have := of_decide_eq_false h2; omega
      have hkl : x.1 = t.nodes.length := by simpa using hge
      refine zwe ?_
      refine zte ?_
      refine zte ?_
      refine zbk ?_
      refine ztn ?_
      refine zw2 ?_
      refine zsr ?_
      refine zc rfl (zfa (o := 2) (zt rfl) zk rfl ?_)
      refine zc rfl (zl1 (zt rfl) zk rfl rfl rfl ?_)
      refine zc rfl (zln (e := 34) (n := 3) (zt rfl) rfl zk rfl (fun hl => ?_))
      refine zc rfl (zmv (zi zdc) rfl ?_)
      refine zn0 ?_
      refine zwb ?_
      refine awp_loop (ι := Nat × Int) (fun y => St.of [(27, VR (t.inner.map Trust.enc)), (28, VI ((t.inner.map Trust.enc).length : Int)), (29, VI ((y.1 : Nat) : Int)), (1, VI (s)), (2, .one (.ref (.o 2) 0)), (5, VI (y.2))] [(.o 2, t.d.map C.dat)] []) (fun y => y.1 ≤ (t.inner.map Trust.enc).length ∧ (sats s (t.inner.drop y.1) y.2 = sats s t.inner (cntN s t.nodes 0) ∧ 0 ≤ y.2 ∧ y.2 ≤ t.nodes.length + y.1)) (fun y => (t.inner.map Trust.enc).length - y.1) (0, x.2) ?_ ?_ ?_
      · exact (le_of (sc rfl (sc rfl (sc rfl (sc rfl (sc rfl (sc rfl sz)))))) (xc rfl xz) kz)
      · exact ⟨Nat.zero_le _, ⟨by rw [← hI, hkl, List.drop_length]; rfl, hs0, by show x.2 ≤ _ + (0 : Int); omega⟩⟩
      intro y ⟨hk, ⟨hJ, ht0, ht1⟩⟩
      refine zsr ?_
      refine zc rfl (zcm (zt rfl) (zt rfl) rfl rfl ?_)
      refine zn0 ?_
      refine zw2 ?_
      refine zwc (zt rfl) (fun h4 => ?_) (fun h4 => ?_)
      · skip
        have hlt : y.1 < (t.inner.map Trust.enc).length := by have := of_decide_eq_true h4; omega
        have hl2 : y.1 < t.inner.length := by simpa using hlt
        refine zws ?_
        refine ztn ?_
        refine zw2 ?_
        refine zwb ?_
        refine zsr ?_
        refine zc rfl (op_indexAddr (e := 34) (n := 3) (zt rfl) rfl (zt rfl) zk (by omega) (show (t.inner.map Trust.enc)[y.1]? = some _ from tget hl2) rfl rfl ?_)
        refine zc rfl (op_load_imm (n := 3) (zt rfl) zk rfl rfl rfl ?_)
        refine zc rfl (zal (cs := [.dat (.int .i64 0), .nilsl, .nilsl]) zk rfl ?_)
        refine zc rfl (zst (n := 3) (zt rfl) (zt rfl) rfl (.inl zk) rfl rfl (zbl rfl) ?_)
        refine zn0 ?_
        refine zsr ?_
        refine zc rfl (zld (n := 3) (zt rfl) zk rfl rfl rfl rfl ?_)
        refine zc rfl (zmv (zt rfl) rfl ?_)
        refine zc rfl (zcl zhf (hc (zt rfl) (hc (zt rfl) hz)) (rs := []) (bxs := []) zdc bz (ih _ s (Trust.ok_inner hok hl2) (by have := sz_inner hl2; omega)) rfl rfl rfl (fun d b hd hl => ?_))
        obtain ⟨rfl, rfl⟩ := hd
        refine zn0 ?_
        refine zwc (zt rfl) (fun h5 => ?_) (fun h5 => ?_)
        · skip
          obtain ⟨nv, hnv⟩ : ∃ v : Int, v = y.2 + 1 := ⟨_, rfl⟩
          have hn := (sats_yes (n := y.2) hl2 h5).trans hJ
          rw [← hnv] at hn
          refine zre ?_
          refine zc rfl (zmv (zt rfl) rfl ?_)
          refine zc rfl (zar (zt rfl) (zi zdc) rfl (ink64 (by omega) (by omega)) rfl ?_)
          refine zc rfl (zas (zt rfl) rfl ?_)
          refine zn0 ?_
          refine zbn ?_
          refine ztn ?_
          refine zre ?_
          refine zc rfl (zar (zt rfl) (zi zdc) rfl (ink64 (by omega) (by omega)) rfl ?_)
          refine zc rfl (zmv (zt rfl) rfl ?_)
          refine zn0 ?_
          refine ztn ?_
          exact ⟨(y.1 + 1, nv), ⟨by first | omega | (dsimp only; omega), ⟨hn, by dsimp only; omega⟩⟩, by first | omega | (dsimp only; omega), (le_of (sc rfl (sc rfl (sc rfl (sc rfl (sc rfl (sc (vi_eq rfl hnv) sz)))))) (xc rfl xz) kz)⟩
        · skip
          obtain ⟨nv, hnv⟩ : ∃ v : Int, v = y.2 := ⟨_, rfl⟩
          have hn := (sats_no (n := y.2) hl2 h5).trans hJ
          rw [← hnv] at hn
          refine zws ?_
          refine zbn ?_
          refine ztn ?_
          refine zre ?_
          refine zc rfl (zar (zt rfl) (zi zdc) rfl (ink64 (by omega) (by omega)) rfl ?_)
          refine zc rfl (zmv (zt rfl) rfl ?_)
          refine zn0 ?_
          refine ztn ?_
          exact ⟨(y.1 + 1, nv), ⟨by first | omega | (dsimp only; omega), ⟨hn, by dsimp only; omega⟩⟩, by first | omega | (dsimp only; omega), (le_of (sc rfl (sc rfl (sc rfl (sc rfl (sc rfl (sc (vi_eq rfl hnv) sz)))))) (xc rfl xz) kz)⟩
      · skip
        have hge : y.1 = (t.inner.map Trust.enc).length := by have := of_decide_eq_false h4; omega
        refine zwe ?_
        refine zte ?_
        refine zte ?_
        refine zbk ?_
        refine ztn ?_
        refine zsr ?_
        refine zc rfl (zmv (zt rfl) rfl ?_)
        refine zc rfl (zfa (o := 0) (zt rfl) zk rfl ?_)
        refine zc rfl (zl1 (zt rfl) zk rfl rfl rfl ?_)
        refine zc rfl (zcm (zt rfl) (zt rfl) rfl rfl ?_)
        refine zc rfl (zas (zt rfl) rfl ?_)
        refine zn0 ?_
        refine zwr ?_
        refine zpr [] (res1 (zrt rfl)) rfl lz ?_
        have hyl : y.1 = t.inner.length := by simpa using hge
        have he : sats s t.inner (cntN s t.nodes 0) = y.2 := by rw [← hJ, hyl, List.drop_length, sats]
        have hv : validS s = true := by simpa using h1
        rw [Trust.sat_def, he, hv]
        exact ⟨rfl, rfl⟩
theorem c_trustquorumref02_Satisfied (t : Trust) (s : Int) (hok : t.ok) : ACalls Tryz.prog 72 [.aggd t.d, VI s] [] fun dd bb => dd = VB (t.sat s) ∧ bb = [] := c_trustquorumref02_Satisfied_aux _ t s hok (Nat.le_refl _)

theorem c_threshold_Satisfied_aux (N : Nat) : ∀ (t : Trust) (s : Int) (hok : t.ok), SizeOf.sizeOf t ≤ N → ACalls Tryz.prog 171 [.aggd t.d, VI s] [] fun dd bb => dd = VB (t.sat s) ∧ bb = [] := by
  induction N with
  | zero => intro t s hok hN; exact absurd hN (szPos t)
  | succ N ih =>
  intro t s hok hN
  have hlen : (t.nodes.length : Int) + (t.inner.length : Int) ≤ 1000000000 := Trust.ok_len hok
  refine zai Tryz.func171 rfl Tryz.ntmps171 (by rw [Tryz.results171]) rfl rfl (fun w0 A0 X => ?_)
  refine zsr ?_
  refine zc rfl (zbx (zt rfl) rfl rfl ?_)
  refine zc rfl (zas zb0 rfl ?_)
  refine zn0 ?_
  refine zw2 ?_
  refine zsr ?_
  refine zc rfl (zmv (zt rfl) rfl ?_)
  refine zc rfl (zcl zhf (hc (zt rfl) hz) (rs := []) (bxs := []) zdc bz (c_nodeset_Valid s) rfl rfl rfl (fun d b hd hl => ?_))
  obtain ⟨rfl, rfl⟩ := hd
  refine zc rfl (op_not (zt rfl) rfl ?_)
  refine zn0 ?_
  refine zwc (zt rfl) (fun h1 => ?_) (fun h1 => ?_)
  · skip
    have g1 := h1
    try simp only [zbz] at g1
    refine zsr ?_
    refine zc rfl (zas zb0 rfl ?_)
    refine zn0 ?_
    refine zwr ?_
    refine ztr ?_
    refine zpr [] (res1 (zrt rfl)) rfl lz ?_
    have hv : validS s = false := by simpa using h1
    rw [Trust.sat_def, hv]
    exact ⟨rfl, rfl⟩
  · skip
    have g1 := h1
    try simp only [zbz] at g1
    refine zws ?_
    refine ztn ?_
    refine zsr ?_
    refine zc rfl (zas (zi zdc) rfl ?_)
    refine zn0 ?_
    refine zw2 ?_
    refine zsr ?_
    refine zc rfl (zfa (o := 1) (zt rfl) zk rfl ?_)
    refine zc rfl (zl1 (zt rfl) zk rfl rfl rfl ?_)
    refine zc rfl (zln (e := 3) (n := 1) (zt rfl) rfl zk rfl (fun hl => ?_))
    refine zc rfl (zmv (zi zdc) rfl ?_)
    refine zn0 ?_
    refine zwb ?_
    refine awp_loop (ι := Nat × Int) (fun x => St.of [(14, VR (iRows t.nodes)), (15, VI ((iRows t.nodes).length : Int)), (16, VI ((x.1 : Nat) : Int)), (1, VI (s)), (2, .one (.ref (.o 2) 0)), (5, VI (x.2))] [(.o 2, t.d.map C.dat)] []) (fun x => x.1 ≤ (iRows t.nodes).length ∧ (cntN s (t.nodes.drop x.1) x.2 = cntN s t.nodes 0 ∧ 0 ≤ x.2 ∧ x.2 ≤ x.1)) (fun x => (iRows t.nodes).length - x.1) (0, 0) ?_ ?_ ?_
    · exact (le_of (sc rfl (sc rfl (sc rfl (sc rfl (sc rfl (sc rfl sz)))))) (xc rfl xz) kz)
    · exact ⟨Nat.zero_le _, ⟨rfl, Int.le_refl 0, Int.le_refl 0⟩⟩
    intro x ⟨hk, ⟨hI, hs0, hs1⟩⟩
    refine zsr ?_
    refine zc rfl (zcm (zt rfl) (zt rfl) rfl rfl ?_)
    refine zn0 ?_
    refine zw2 ?_
    refine zwc (zt rfl) (fun h2 => ?_) (fun h2 => ?_)
    · skip
      have hlt : x.1 < (iRows t.nodes).length := by have := of_decide_eq_true h2; omega
      have hl1 : x.1 < t.nodes.length := by simpa using hlt
      refine zws ?_
      refine ztn ?_
      refine zw2 ?_
      refine zwb ?_
      refine zsr ?_
      refine zc rfl (op_indexAddr (e := 3) (n := 1) (zt rfl) rfl (zt rfl) zk (by omega) (show (iRows t.nodes)[x.1]? = some _ from map_getD hl1) rfl rfl ?_)
      refine zc rfl (op_load_imm1 (zt rfl) zk rfl rfl ?_)
      refine zc rfl (zas (zt rfl) rfl ?_)
      refine zn0 ?_
      refine zsr ?_
      refine zc rfl (zmv (zt rfl) rfl ?_)
      refine zc rfl (zmv (zt rfl) rfl ?_)
      refine zc rfl (zcl zhf (hc (zt rfl) (hc (zt rfl) hz)) (rs := []) (bxs := []) zdc bz (c_nodeset_Has s _) rfl rfl rfl (fun d b hd hl => ?_))
      obtain ⟨rfl, rfl⟩ := hd
      refine zn0 ?_
      refine zwc (zt rfl) (fun h3 => ?_) (fun h3 => ?_)
      · skip
        obtain ⟨nv, hnv⟩ : ∃ v : Int, v = x.2 + 1 := ⟨_, rfl⟩
        have hn := (cntN_yes (n := x.2) hl1 h3).trans hI
        rw [← hnv] at hn
        refine zre ?_
        refine zc rfl (zmv (zt rfl) rfl ?_)
        refine zc rfl (zar (zt rfl) (zi zdc) rfl (ink64 (by omega) (by omega)) rfl ?_)
        refine zc rfl (zas (zt rfl) rfl ?_)
        refine zn0 ?_
        refine zbn ?_
        refine ztn ?_
        refine zre ?_
        refine zc rfl (zar (zt rfl) (zi zdc) rfl (ink64 (by omega) (by omega)) rfl ?_)
        refine zc rfl (zmv (zt rfl) rfl ?_)
        refine zn0 ?_
        refine ztn ?_
        exact ⟨(x.1 + 1, nv), ⟨by first | omega | (dsimp only; omega), ⟨hn, by dsimp only; omega⟩⟩, by first | omega | (dsimp only; omega), (le_of (sc rfl (sc rfl (sc rfl (sc rfl (sc rfl (sc (vi_eq rfl hnv) sz)))))) (xc rfl xz) kz)⟩
      · skip
        obtain ⟨nv, hnv⟩ : ∃ v : Int, v = x.2 := ⟨_, rfl⟩
        have hn := (cntN_no (n := x.2) hl1 h3).trans hI
        rw [← hnv] at hn
        refine zws ?_
        refine zbn ?_
        refine ztn ?_
        refine zre ?_
        refine zc rfl (zar (zt rfl) (zi zdc) rfl (ink64 (by omega) (by omega)) rfl ?_)
        refine zc rfl (zmv (zt rfl) rfl ?_)
        refine zn0 ?_
        refine ztn ?_
        exact ⟨(x.1 + 1, nv), ⟨by first | omega | (dsimp only; omega), ⟨hn, by dsimp only; omega⟩⟩, by first | omega | (dsimp only; omega), (le_of (sc rfl (sc rfl (sc rfl (sc rfl (sc rfl (sc (vi_eq rfl hnv) sz)))))) (xc rfl xz) kz)⟩
    · skip
      have hge : x.1 = (iRows t.nodes).length := by have := of_decide_eq_false h2; omega
      have hkl : x.1 = t.nodes.length := by simpa using hge
      refine zwe ?_
      refine zte ?_
      refine zte ?_
      refine zbk ?_
      refine ztn ?_
      refine zw2 ?_
      refine zsr ?_
      refine zc rfl (zfa (o := 2) (zt rfl) zk rfl ?_)
      refine zc rfl (zl1 (zt rfl) zk rfl rfl rfl ?_)
      refine zc rfl (zln (e := 34) (n := 3) (zt rfl) rfl zk rfl (fun hl => ?_))
      refine zc rfl (zmv (zi zdc) rfl ?_)
      refine zn0 ?_
      refine zwb ?_
      refine awp_loop (ι := Nat × Int) (fun y => St.of [(27, VR (t.inner.map Trust.enc)), (28, VI ((t.inner.map Trust.enc).length : Int)), (29, VI ((y.1 : Nat) : Int)), (1, VI (s)), (2, .one (.ref (.o 2) 0)), (5, VI (y.2))] [(.o 2, t.d.map C.dat)] []) (fun y => y.1 ≤ (t.inner.map Trust.enc).length ∧ (sats s (t.inner.drop y.1) y.2 = sats s t.inner (cntN s t.nodes 0) ∧ 0 ≤ y.2 ∧ y.2 ≤ t.nodes.length + y.1)) (fun y => (t.inner.map Trust.enc).length - y.1) (0, x.2) ?_ ?_ ?_
      · exact (le_of (sc rfl (sc rfl (sc rfl (sc rfl (sc rfl (sc rfl sz)))))) (xc rfl xz) kz)
      · exact ⟨Nat.zero_le _, ⟨by rw [← hI, hkl, List.drop_length]; rfl, hs0, by show x.2 ≤ _ + (0 : Int); omega⟩⟩
      intro y ⟨hk, ⟨hJ, ht0, ht1⟩⟩
      refine zsr ?_
      refine zc rfl (zcm (zt rfl) (zt rfl) rfl rfl ?_)
      refine zn0 ?_
      refine zw2 ?_
      refine zwc (zt rfl) (fun h4 => ?_) (fun h4 => ?_)
      · skip
        have hlt : y.1 < (t.inner.map Trust.enc).length := by have := of_decide_eq_true h4; omega
        have hl2 : y.1 < t.inner.length := by simpa using hlt
        refine zws ?_
        refine ztn ?_
        refine zw2 ?_
        refine zwb ?_
        refine zsr ?_
        refine zc rfl (op_indexAddr (e := 34) (n := 3) (zt rfl) rfl (zt rfl) zk (by omega) (show (t.inner.map Trust.enc)[y.1]? = some _ from tget hl2) rfl rfl ?_)
        refine zc rfl (op_load_imm (n := 3) (zt rfl) zk rfl rfl rfl ?_)
        refine zc rfl (zal (cs := [.dat (.int .i64 0), .nilsl, .nilsl]) zk rfl ?_)
        refine zc rfl (zst (n := 3) (zt rfl) (zt rfl) rfl (.inl zk) rfl rfl (zbl rfl) ?_)
        refine zn0 ?_
        refine zsr ?_
        refine zc rfl (zld (n := 3) (zt rfl) zk rfl rfl rfl rfl ?_)
        refine zc rfl (zmv (zt rfl) rfl ?_)
        refine zc rfl (zcl zhf (hc (zt rfl) (hc (zt rfl) hz)) (rs := []) (bxs := []) zdc bz (ih _ s (Trust.ok_inner hok hl2) (by have := sz_inner hl2; omega)) rfl rfl rfl (fun d b hd hl => ?_))
        obtain ⟨rfl, rfl⟩ := hd
        refine zn0 ?_
        refine zwc (zt rfl) (fun h5 => ?_) (fun h5 => ?_)
        · skip
          obtain ⟨nv, hnv⟩ : ∃ v : Int, v = y.2 + 1 := ⟨_, rfl⟩
          have hn := (sats_yes (n := y.2) hl2 h5).trans hJ
          rw [← hnv] at hn
          refine zre ?_
          refine zc rfl (zmv (zt rfl) rfl ?_)
          refine zc rfl (zar (zt rfl) (zi zdc) rfl (ink64 (by omega) (by omega)) rfl ?_)
          refine zc rfl (zas (zt rfl) rfl ?_)
          refine zn0 ?_
          refine zbn ?_
          refine ztn ?_
          refine zre ?_
          refine zc rfl (zar (zt rfl) (zi zdc) rfl (ink64 (by omega) (by omega)) rfl ?_)
          refine zc rfl (zmv (zt rfl) rfl ?_)
          refine zn0 ?_
          refine ztn ?_
          exact ⟨(y.1 + 1, nv), ⟨by first | omega | (dsimp only; omega), ⟨hn, by dsimp only; omega⟩⟩, by first | omega | (dsimp only; omega), (le_of (sc rfl (sc rfl (sc rfl (sc rfl (sc rfl (sc (vi_eq rfl hnv) sz)))))) (xc rfl xz) kz)⟩
        · skip
          obtain ⟨nv, hnv⟩ : ∃ v : Int, v = y.2 := ⟨_, rfl⟩
          have hn := (sats_no (n := y.2) hl2 h5).trans hJ
          rw [← hnv] at hn
          refine zws ?_
          refine zbn ?_
          refine ztn ?_
          refine zre ?_
          refine zc rfl (zar (zt rfl) (zi zdc) rfl (ink64 (by omega) (by omega)) rfl ?_)
          refine zc rfl (zmv (zt rfl) rfl ?_)
          refine zn0 ?_
          refine ztn ?_
          exact ⟨(y.1 + 1, nv), ⟨by first | omega | (dsimp only; omega), ⟨hn, by dsimp only; omega⟩⟩, by first | omega | (dsimp only; omega), (le_of (sc rfl (sc rfl (sc rfl (sc rfl (sc rfl (sc (vi_eq rfl hnv) sz)))))) (xc rfl xz) kz)⟩
      · skip
        have hge : y.1 = (t.inner.map Trust.enc).length := by have := of_decide_eq_false h4; omega
        refine zwe ?_
        refine zte ?_
        refine zte ?_
        refine zbk ?_
        refine ztn ?_
        refine zsr ?_
        refine zc rfl (zmv (zt rfl) rfl ?_)
        refine zc rfl (zfa (o := 0) (zt rfl) zk rfl ?_)
        refine zc rfl (zl1 (zt rfl) zk rfl rfl rfl ?_)
        refine zc rfl (zcm (zt rfl) (zt rfl) rfl rfl ?_)
        refine zc rfl (zas (zt rfl) rfl ?_)
        refine zn0 ?_
        refine zwr ?_
        refine zpr [] (res1 (zrt rfl)) rfl lz ?_
        have hyl : y.1 = t.inner.length := by simpa using hge
        have he : sats s t.inner (cntN s t.nodes 0) = y.2 := by rw [← hJ, hyl, List.drop_length, sats]
        have hv : validS s = true := by simpa using h1
        rw [Trust.sat_def, he, hv]
        exact ⟨rfl, rfl⟩
theorem c_threshold_Satisfied (t : Trust) (s : Int) (hok : t.ok) : ACalls Tryz.prog 171 [.aggd t.d, VI s] [] fun dd bb => dd = VB (t.sat s) ∧ bb = [] := c_threshold_Satisfied_aux _ t s hok (Nat.le_refl _)

end Go.TQ
