/- Rules for bits, shifts, quotients, strings, conversions, min and max, over abstract states. Own work. -/
import Derived.Test.YtmfiplnojbjcbaaGreatAbsE
import Derived.Laws.StructEq
set_option linter.unusedVariables false
set_option linter.unusedSimpArgs false
namespace Go.TQ

theorem andl {a b : Bool} (h : (a && b) = true) : a = true := by cases a <;> simp_all
theorem andr {a b : Bool} (h : (a && b) = true) : b = true := by cases a <;> simp_all
theorem has_cond_and {c : Ctx} {st : St} {x : Operand} {p q : Bool} {v : V} (h : Has c st x (.cond (p && q) v)) (hp : p = true) : Has c st x (.cond q v) := by subst hp; simpa using h

theorem ofInt_nat (a : Nat) (ha : a < 18446744073709551616) : (BitVec.ofInt 64 (a : Int)).toNat = a := by
  rw [BitVec.ofInt_natCast, BitVec.toNat_ofNat]
  exact Nat.mod_eq_of_lt (by omega)

/-- Bits of numbers that are not negative. -/
def bitN : BinOp → Nat → Nat → Option Nat
  | .and, x, y => some (x &&& y)
  | .or, x, y => some (x ||| y)
  | .xor, x, y => some (x ^^^ y)
  | .andNot, x, y => some (x ^^^ (x &&& y))
  | _, _, _ => none

theorem andNot_nat (x y : Nat) (hx : x < 2 ^ 64) (hy : y < 2 ^ 64) : (BitVec.ofNat 64 x &&& ~~~ BitVec.ofNat 64 y).toNat = x ^^^ (x &&& y) := by
  apply Nat.eq_of_testBit_eq
  intro i
  rw [BitVec.testBit_toNat, BitVec.getLsbD_and, BitVec.getLsbD_not, BitVec.getLsbD_ofNat, BitVec.getLsbD_ofNat, Nat.testBit_xor, Nat.testBit_and]
  by_cases hi : i < 64
  · simp only [hi, decide_true, Bool.true_and]
    cases x.testBit i <;> cases y.testBit i <;> rfl
  · have : x.testBit i = false := Nat.testBit_lt_two_pow (Nat.lt_of_lt_of_le hx (Nat.pow_le_pow_right (by omega) (by omega)))
    simp [hi, this]

theorem pow62 {n : Nat} (h : n ≤ 62) : 1 <<< n ≤ 4611686018427387904 := by
  rw [Nat.one_shiftLeft]
  exact Nat.le_trans (Nat.pow_le_pow_right (by omega) h) (by decide)
theorem ink_shl1 {j : Int} (h : j ≤ 62) : InK .i64 (((1 : Int).toNat <<< j.toNat : Nat) : Int) := by
  have h1 : ((1 : Int).toNat <<< j.toNat) = 1 <<< j.toNat := rfl
  have := pow62 (show j.toNat ≤ 62 by omega)
  rw [h1]
  generalize 1 <<< j.toNat = m at *
  exact ink64 (by omega) (by omega)
section
variable {c : Ctx} {st : St} {K : St → Prop} {t ty : Nat} {pos : String} {af : Array Edge} {gd : Option (Nat × Bool)}

theorem run_bits {P : Program} {w : World} {op : BinOp} {x y n : Nat} (hn : bitN op x y = some n) (hx : x < 9223372036854775808) (hy : y < 9223372036854775808) :
    (binOp op 0 (.int .i64 (x : Int)) (.int .i64 (y : Int))).run P w = .ok (.int .i64 (n : Int)) w ∧ n < 9223372036854775808 := by
  have hx' : (BitVec.ofInt 64 (x : Int)) = BitVec.ofNat 64 x := by rw [BitVec.ofInt_natCast]
  have hy' : (BitVec.ofInt 64 (y : Int)) = BitVec.ofNat 64 y := by rw [BitVec.ofInt_natCast]
  have ex : (BitVec.ofNat 64 x).toNat = x := by rw [BitVec.toNat_ofNat]; exact Nat.mod_eq_of_lt (by omega)
  have ey : (BitVec.ofNat 64 y).toNat = y := by rw [BitVec.toNat_ofNat]; exact Nat.mod_eq_of_lt (by omega)
  have key : n < 9223372036854775808 := by
    have h63 : 9223372036854775808 = 2 ^ 63 := by decide
    rw [h63] at hx hy ⊢
    cases op <;> simp only [bitN, Option.some.injEq] at hn <;> first | (cases hn; done) | skip
    · subst hn; exact Nat.and_lt_two_pow _ hy
    · subst hn; exact Nat.or_lt_two_pow hx hy
    · subst hn; exact Nat.xor_lt_two_pow hx hy
    · subst hn; exact Nat.xor_lt_two_pow hx (Nat.and_lt_two_pow _ hy)
  refine ⟨?_, key⟩
  have hw : IntKind.i64.wrap (n : Int) = n := wrap_in (ink64 (by omega) (by omega))
  cases op <;> simp only [bitN, Option.some.injEq] at hn <;> first | (cases hn; done) | skip
  · subst hn
    have e : (BitVec.ofNat 64 x &&& BitVec.ofNat 64 y).toNat = x &&& y := by rw [BitVec.toNat_and, ex, ey]
    simp only [binOp, Op.intBits, hx', hy', ne_eq, not_true_eq_false, if_false, Sem.run_pure]
    refine congrArg (fun m : Int => Result.ok (Value.int .i64 m) w) (Eq.trans (congrArg (fun m : Nat => IntKind.i64.wrap (m : Int)) ?_) hw)
    exact (by rw [← e]; rfl)
  · subst hn
    have e : (BitVec.ofNat 64 x ||| BitVec.ofNat 64 y).toNat = x ||| y := by rw [BitVec.toNat_or, ex, ey]
    simp only [binOp, Op.intBits, hx', hy', ne_eq, not_true_eq_false, if_false, Sem.run_pure]
    refine congrArg (fun m : Int => Result.ok (Value.int .i64 m) w) (Eq.trans (congrArg (fun m : Nat => IntKind.i64.wrap (m : Int)) ?_) hw)
    exact (by rw [← e]; rfl)
  · subst hn
    have e : (BitVec.ofNat 64 x ^^^ BitVec.ofNat 64 y).toNat = x ^^^ y := by rw [BitVec.toNat_xor, ex, ey]
    simp only [binOp, Op.intBits, hx', hy', ne_eq, not_true_eq_false, if_false, Sem.run_pure]
    refine congrArg (fun m : Int => Result.ok (Value.int .i64 m) w) (Eq.trans (congrArg (fun m : Nat => IntKind.i64.wrap (m : Int)) ?_) hw)
    exact (by rw [← e]; rfl)
  · subst hn
    have e := andNot_nat x y (by omega) (by omega)
    simp only [binOp, Op.intBits, hx', hy', ne_eq, not_true_eq_false, if_false, Sem.run_pure]
    refine congrArg (fun m : Int => Result.ok (Value.int .i64 m) w) (Eq.trans (congrArg (fun m : Nat => IntKind.i64.wrap (m : Int)) ?_) hw)
    exact (by rw [← e]; rfl)

theorem op_bit {op : BinOp} {tx ty' : TypeId} {x y : Operand} {i j : Int} {n : Nat} (hx : Has c st x (.one (.dat (.int .i64 i)))) (hy : Has c st y (.one (.dat (.int .i64 j)))) (h0 : 0 ≤ i) (h1 : 0 ≤ j) (hn : bitN op i.toNat j.toNat = some n)
    (ht : Nat.blt t c.N = true) (hK : K (st.put t (.one (.dat (.int .i64 (n : Int)))))) : AOp c ⟨some t, .binOp op tx x y ty', ty, pos, af, gd⟩ st K := by
  intro Φ a w hr K' Q hQ
  have hi := ink64_out (rv_int (hx Φ a w hr)).2
  have hj := ink64_out (rv_int (hy Φ a w hr)).2
  have hb := fun w => run_bits (P := c.P) (w := w) hn (by omega) (by omega)
  refine aop_pure (v := .one (.dat (.int .i64 (n : Int)))) rfl ht (fun Φ a w hr => ?_) hK Φ a w hr K' Q hQ
  have e1 := (rv_int (hx Φ a w hr)).1
  have e2 := (rv_int (hy Φ a w hr)).1
  refine ⟨.int .i64 n, ?_, rv_mk_int (ink64 (by have := (hb w).2; omega) (by have := (hb w).2; omega))⟩
  have h3 := (hb w).1
  rw [Int.toNat_of_nonneg h0, Int.toNat_of_nonneg h1] at h3
  have h4 : (binOp op tx (.int .i64 i) (.int .i64 j)).run c.P w = .ok (.int .i64 n) w := by
    rw [← h3]
    cases op <;> first | rfl | (simp [bitN] at hn)
  simp only [execOp, e1, e2, Sem.run_bind, eqGuard_int, Result.andThen_ok, h4, Sem.run_pure]

def intT (P : Program) (t : TypeId) : Option IntKind :=
  match P.underlying t with
  | some (.int k) => some k
  | _ => none
theorem intT_ok {P : Program} {t : TypeId} {k : IntKind} (h : intT P t = some k) : P.underlying t = some (.int k) := by
  unfold intT at h
  split at h
  · rename_i k' hk
    injection h with h
    subst h
    exact hk
  · cases h
theorem op_convert {x : Operand} {ts td : TypeId} {k k1 k' : IntKind} {n : Int} (hx : Has c st x (.one (.dat (.int k n)))) (hs : intT c.P ts = some k1) (hd : intT c.P td = some k') (hin : InK k' n) (ht : Nat.blt t c.N = true)
    (hK : K (st.put t (.one (.dat (.int k' n))))) : AOp c ⟨some t, .convert ts td x, ty, pos, af, gd⟩ st K :=
  aop_pure rfl ht (fun Φ a w hr => by
    have e1 := (rv_int (hx Φ a w hr)).1
    refine ⟨.int k' n, ?_, rv_mk_int hin⟩
    simp [execOp, e1, convert, run_underlying (intT_ok hs), run_underlying (intT_ok hd), Conv.intToInt, wrap_in hin]) hK

theorem bits_ge (k : IntKind) : 8 ≤ k.bits := by cases k <;> decide
/-- x << y and x >> y of numbers that are not negative. -/
theorem op_shl {tx ty' : TypeId} {x y : Operand} {k k' : IntKind} {i j : Int} (hx : Has c st x (.one (.dat (.int k i)))) (hy : Has c st y (.one (.dat (.int k' j)))) (h0 : 0 ≤ i) (h1 : 0 ≤ j) (h2 : j ≤ k.bits) (hin : InK k ((i.toNat <<< j.toNat : Nat) : Int))
    (ht : Nat.blt t c.N = true) (hK : K (st.put t (.one (.dat (.int k ((i.toNat <<< j.toNat : Nat) : Int)))))) : AOp c ⟨some t, .binOp .shl tx x y ty', ty, pos, af, gd⟩ st K :=
  aop_pure rfl ht (fun Φ a w hr => by
    have e1 := (rv_int (hx Φ a w hr)).1
    have e2 := (rv_int (hy Φ a w hr)).1
    refine ⟨.int k _, ?_, rv_mk_int hin⟩
    have hmin : min j.toNat k.bits = j.toNat := by omega
    have hpow : i * 2 ^ j.toNat = ((i.toNat <<< j.toNat : Nat) : Int) := by
      rw [Nat.shiftLeft_eq, Int.natCast_mul, Int.toNat_of_nonneg h0, Int.natCast_pow]
      rfl
    have hneg : ¬ j < 0 := by omega
    simp only [execOp, e1, e2, Sem.run_bind, eqGuard_int, Result.andThen_ok, binOp, Op.shift, if_neg hneg, hmin, hpow, wrap_in hin, Sem.run_pure]) hK
theorem op_shr {tx ty' : TypeId} {x y : Operand} {k k' : IntKind} {i j : Int} (hx : Has c st x (.one (.dat (.int k i)))) (hy : Has c st y (.one (.dat (.int k' j)))) (h0 : 0 ≤ i) (h1 : 0 ≤ j) (h2 : j ≤ k.bits)
    (ht : Nat.blt t c.N = true) (hK : K (st.put t (.one (.dat (.int k ((i.toNat >>> j.toNat : Nat) : Int)))))) : AOp c ⟨some t, .binOp .shr tx x y ty', ty, pos, af, gd⟩ st K :=
  aop_pure rfl ht (fun Φ a w hr => by
    obtain ⟨e1, hin⟩ := rv_int (hx Φ a w hr)
    have e2 := (rv_int (hy Φ a w hr)).1
    have hmin : min j.toNat k.bits = j.toNat := by omega
    have hpow : i.fdiv (2 ^ j.toNat) = ((i.toNat >>> j.toNat : Nat) : Int) := by
      rw [Nat.shiftRight_eq_div_pow, Int.natCast_ediv, Int.toNat_of_nonneg h0, Int.natCast_pow, Int.fdiv_eq_ediv_of_nonneg _ (by exact Int.pow_nonneg (by omega))]
      rfl
    have hneg : ¬ j < 0 := by omega
    have hle : i.toNat >>> j.toNat ≤ i.toNat := by rw [Nat.shiftRight_eq_div_pow]; exact Nat.div_le_self _ _
    refine ⟨.int k _, ?_, rv_mk_int ?_⟩
    · simp only [execOp, e1, e2, Sem.run_bind, eqGuard_int, Result.andThen_ok, binOp, Op.shift, if_neg hneg, hmin, hpow, Sem.run_pure]
    · obtain ⟨h3, h4⟩ := hin
      refine ⟨?_, by omega⟩
      have : k.min ≤ 0 := by cases k <;> decide
      exact Int.le_trans this (Int.natCast_nonneg _)) hK
theorem op_rem {tx ty' : TypeId} {x y : Operand} {k : IntKind} {i j : Int} (hx : Has c st x (.one (.dat (.int k i)))) (hy : Has c st y (.one (.dat (.int k j)))) (h0 : j ≠ 0) (hin : InK k (i.tmod j))
    (ht : Nat.blt t c.N = true) (hK : K (st.put t (.one (.dat (.int k (i.tmod j)))))) : AOp c ⟨some t, .binOp .rem tx x y ty', ty, pos, af, gd⟩ st K :=
  aop_pure rfl ht (fun Φ a w hr => by
    have e1 := (rv_int (hx Φ a w hr)).1
    have e2 := (rv_int (hy Φ a w hr)).1
    exact ⟨.int k _, by simp [execOp, e1, e2, eqGuard_int, binOp, Op.intDiv, h0], rv_mk_int hin⟩) hK
theorem op_quo {tx ty' : TypeId} {x y : Operand} {k : IntKind} {i j : Int} (hx : Has c st x (.one (.dat (.int k i)))) (hy : Has c st y (.one (.dat (.int k j)))) (h0 : j ≠ 0) (hin : InK k (i.tdiv j))
    (ht : Nat.blt t c.N = true) (hK : K (st.put t (.one (.dat (.int k (i.tdiv j)))))) : AOp c ⟨some t, .binOp .quo tx x y ty', ty, pos, af, gd⟩ st K :=
  aop_pure rfl ht (fun Φ a w hr => by
    have e1 := (rv_int (hx Φ a w hr)).1
    have e2 := (rv_int (hy Φ a w hr)).1
    exact ⟨.int k _, by simp [execOp, e1, e2, eqGuard_int, binOp, Op.intDiv, h0, wrap_in hin], rv_mk_int hin⟩) hK
theorem op_builtin_max {x y : Operand} {tys : Array TypeId} {k : IntKind} {i j : Int} (hx : Has c st x (.one (.dat (.int k i)))) (hy : Has c st y (.one (.dat (.int k j))))
    (ht : Nat.blt t c.N = true) (hK : K (st.put t (.one (.dat (.int k (max i j)))))) : AOp c ⟨some t, .call ⟨.builtin .max, #[x, y], tys⟩, ty, pos, af, gd⟩ st K :=
  aop_pure rfl ht (fun Φ a w hr => by
    obtain ⟨e1, h1⟩ := rv_int (hx Φ a w hr)
    obtain ⟨e2, h2⟩ := rv_int (hy Φ a w hr)
    have hm : (if j > i then j else i) = max i j := by split <;> omega
    refine ⟨.int k (max i j), ?_, rv_mk_int ?_⟩
    · rw [← hm]
      simp [execOp, resolve, invoke, builtin, Builtin.max_, e1, e2, Builtin.max2]
    · rw [← hm]; split <;> assumption) hK
theorem op_builtin_min {x y : Operand} {tys : Array TypeId} {k : IntKind} {i j : Int} (hx : Has c st x (.one (.dat (.int k i)))) (hy : Has c st y (.one (.dat (.int k j))))
    (ht : Nat.blt t c.N = true) (hK : K (st.put t (.one (.dat (.int k (min i j)))))) : AOp c ⟨some t, .call ⟨.builtin .min, #[x, y], tys⟩, ty, pos, af, gd⟩ st K :=
  aop_pure rfl ht (fun Φ a w hr => by
    obtain ⟨e1, h1⟩ := rv_int (hx Φ a w hr)
    obtain ⟨e2, h2⟩ := rv_int (hy Φ a w hr)
    have hm : (if j < i then j else i) = min i j := by split <;> omega
    refine ⟨.int k (min i j), ?_, rv_mk_int ?_⟩
    · rw [← hm]
      simp [execOp, resolve, invoke, builtin, Builtin.min_, e1, e2, Builtin.min2]
    · rw [← hm]; split <;> assumption) hK

theorem bytes_eq (x y : ByteArray) : (x.toList == y.toList) = decide (x = y) := by
  rw [ByteArray.toList_eq, ByteArray.toList_eq]
  rw [Bool.eq_iff_iff, beq_iff_eq, decide_eq_true_eq]
  constructor
  · intro h
    obtain ⟨⟨x⟩⟩ := x
    obtain ⟨⟨y⟩⟩ := y
    simp at h
    rw [h]
  · intro h
    rw [h]
def cmpS : BinOp → ByteArray → ByteArray → Option Bool
  | .eql, x, y => some (decide (x = y))
  | .neq, x, y => some (!decide (x = y))
  | .lss, x, y => some (Op.bytesLess x.toList y.toList)
  | .gtr, x, y => some (!(Op.bytesLess x.toList y.toList || decide (x = y)))
  | .leq, x, y => some (Op.bytesLess x.toList y.toList || decide (x = y))
  | .geq, x, y => some (!Op.bytesLess x.toList y.toList)
  | _, _, _ => none
theorem op_cmp_str {op : BinOp} {tx ty' : TypeId} {x y : Operand} {i j : ByteArray} {b : Bool} (hx : Has c st x (.one (.dat (.str i)))) (hy : Has c st y (.one (.dat (.str j)))) (hb : cmpS op i j = some b)
    (ht : Nat.blt t c.N = true) (hK : K (st.put t (.one (.dat (.bool b))))) : AOp c ⟨some t, .binOp op tx x y ty', ty, pos, af, gd⟩ st K :=
  aop_pure rfl ht (fun Φ a w hr => by
    have e1 := (rv_str (hx Φ a w hr)).1
    have e2 := (rv_str (hy Φ a w hr)).1
    refine ⟨.bool b, ?_, rv_mk_bool⟩
    cases op <;> simp only [cmpS, Option.some.injEq] at hb <;> first | (cases hb; done) | skip
    all_goals (subst hb; simp [execOp, e1, e2, eqGuard_str, binOp, Op.stringOp, bytes_eq])) hK

/-! ### == of structs of plain fields -/
inductive TK | i | s | b
def tkOf (P : Program) (t : TypeId) : Option TK :=
  match P.underlying t with
  | some (.int _) => some .i
  | some .string => some .s
  | some .bool => some .b
  | _ => none
def flatT (P : Program) : Nat → List Field → Option (List TK)
  | _, [] => some []
  | k, f :: fs => if f.offset = k ∧ f.name ≠ "_" then
      match tkOf P f.type, flatT P (k + 1) fs with
      | some x, some l => some (x :: l)
      | _, _ => none
    else none
def eqD : Dat → Dat → Option Bool
  | .int _ x, .int _ y => some (decide (x = y))
  | .str x, .str y => some (decide (x = y))
  | .bool x, .bool y => some (decide (x = y))
  | _, _ => none
def eqDs : List TK → List Dat → List Dat → Option Bool
  | [], [], [] => some true
  | .i :: ts, .int k x :: ds, .int k' y :: es => bif decide (k = k') then (eqDs ts ds es).map (decide (x = y) && ·) else none
  | .s :: ts, .str x :: ds, .str y :: es => (eqDs ts ds es).map (decide (x = y) && ·)
  | .b :: ts, .bool x :: ds, .bool y :: es => (eqDs ts ds es).map (decide (x = y) && ·)
  | _, _, _ => none
def flatS (P : Program) (t : TypeId) : Option (List TK) := match P.underlying t with
  | some (.struct fs) => if P.stoodInHeld t = false ∧ P.eqGuardType P.depth t = false then flatT P 0 fs.toList else none
  | _ => none

theorem eqFields_ok {P : Program} {w : World} {A : Arr} {d : Nat} : ∀ {fs : List Field} {k : Nat} {ts : List TK} {ds es : List Dat} {xs ys : Array Value} {b : Bool},
    flatT P k fs = some ts → eqDs ts ds es = some b → All2 (RD A) ds (xs.toList.drop k) → All2 (RD A) es (ys.toList.drop k) → (Op.eqFields (d + 1) xs ys fs).run P w = .ok b w
  | [], k, ts, ds, es, xs, ys, b, hf, he, h1, h2 => by
    simp only [flatT, Option.some.injEq] at hf
    subst hf
    cases ds <;> cases es <;> simp [eqDs] at he
    subst he
    simp [Op.eqFields]
  | f :: fs, k, ts, ds, es, xs, ys, b, hf, he, h1, h2 => by
    simp only [flatT] at hf
    split at hf
    · rename_i hc
      split at hf
      · rename_i x l hx hl
        injection hf with hf
        subst hf
        have hne : f.name ≠ "_" := hc.2
        -- the two cells
        have cell : ∀ (zs : Array Value) (d0 : Dat) (ds0 : List Dat), All2 (RD A) (d0 :: ds0) (zs.toList.drop k) → ∃ u, zs[k]? = some u ∧ RD A d0 u ∧ All2 (RD A) ds0 (zs.toList.drop (k + 1)) := by
          intro zs d0 ds0 h
          cases hz : zs.toList.drop k with
          | nil => rw [hz] at h; exact h.elim
          | cons u us =>
            rw [hz] at h
            refine ⟨u, ?_, h.1, ?_⟩
            · have : zs.toList[k]? = some u := by
                have := congrArg (fun l => l[0]?) hz
                simpa using this
              simpa using this
            · have : zs.toList.drop (k + 1) = us := by rw [← List.drop_drop, hz]; rfl
              rw [this]
              exact h.2
        have agg : isAgg f.type = isAgg f.type := rfl
        cases x with
        | i =>
          cases ds with
          | nil => simp [eqDs] at he
          | cons d0 ds =>
            cases es with
            | nil => cases d0 <;> simp [eqDs] at he
            | cons e0 es =>
              cases d0 <;> cases e0 <;> simp only [eqDs] at he <;> first | (cases he; done) | skip
              rename_i ki x kj y
              cases hk : decide (ki = kj) with
              | false => rw [hk] at he; cases he
              | true =>
                rw [hk] at he
                simp only [cond_true, Option.map_eq_some_iff] at he
                obtain ⟨b', hb', rfl⟩ := he
                obtain ⟨u, hu, hru, h1'⟩ := cell xs _ _ h1
                obtain ⟨v, hv, hrv, h2'⟩ := cell ys _ _ h2
                rw [RD] at hru hrv
                obtain rfl := of_decide_eq_true hk
                have ht : ∃ kk, P.underlying f.type = some (.int kk) := by
                  unfold tkOf at hx
                  split at hx <;> first | exact ⟨_, by assumption⟩ | (injection hx with hx; cases hx) | cases hx
                obtain ⟨kk, ht⟩ := ht
                have hpx : (part f.type xs f.offset).run P w = .ok u w := by simp [part, isAgg, run_underlying ht, hc.1, hu]
                have hpy : (part f.type ys f.offset).run P w = .ok v w := by simp [part, isAgg, run_underlying ht, hc.1, hv]
                have ih := eqFields_ok (P := P) (w := w) (d := d) hl hb' h1' h2'
                have heq : (Op.equalIn (d + 1) f.type u v).run P w = .ok (decide (x = y)) w := by
                  rw [hru.1, hrv.1]
                  simp [Op.equalIn, run_underlying ht]
                  rfl
                simp only [Op.eqFields, if_pos hne, Sem.run_bind, hpx, hpy, Result.andThen_ok, heq]
                cases decide (x = y) with
                | true => simp [ih]
                | false => simp
        | s =>
          cases ds with
          | nil => simp [eqDs] at he
          | cons d0 ds =>
            cases es with
            | nil => cases d0 <;> simp [eqDs] at he
            | cons e0 es =>
              cases d0 <;> cases e0 <;> simp only [eqDs] at he <;> first | (cases he; done) | skip
              rename_i x y
              rw [Option.map_eq_some_iff] at he
              obtain ⟨b', hb', rfl⟩ := he
              obtain ⟨u, hu, hru, h1'⟩ := cell xs _ _ h1
              obtain ⟨v, hv, hrv, h2'⟩ := cell ys _ _ h2
              rw [RD] at hru hrv
              have ht : P.underlying f.type = some .string := by
                unfold tkOf at hx
                split at hx <;> first | assumption | (injection hx with hx; cases hx) | cases hx
              have hpx : (part f.type xs f.offset).run P w = .ok u w := by simp [part, isAgg, run_underlying ht, hc.1, hu]
              have hpy : (part f.type ys f.offset).run P w = .ok v w := by simp [part, isAgg, run_underlying ht, hc.1, hv]
              have ih := eqFields_ok (P := P) (w := w) (d := d) hl hb' h1' h2'
              have heq : (Op.equalIn (d + 1) f.type u v).run P w = .ok (decide (x = y)) w := by
                rw [hru.1, hrv.1]
                simp [Op.equalIn, run_underlying ht]
                rw [beq_toListBytes, bytes_eq]
              simp only [Op.eqFields, if_pos hne, Sem.run_bind, hpx, hpy, Result.andThen_ok, heq]
              cases decide (x = y) with
              | true => simp [ih]
              | false => simp
        | b =>
          cases ds with
          | nil => simp [eqDs] at he
          | cons d0 ds =>
            cases es with
            | nil => cases d0 <;> simp [eqDs] at he
            | cons e0 es =>
              cases d0 <;> cases e0 <;> simp only [eqDs] at he <;> first | (cases he; done) | skip
              rename_i x y
              rw [Option.map_eq_some_iff] at he
              obtain ⟨b', hb', rfl⟩ := he
              obtain ⟨u, hu, hru, h1'⟩ := cell xs _ _ h1
              obtain ⟨v, hv, hrv, h2'⟩ := cell ys _ _ h2
              rw [RD] at hru hrv
              have ht : P.underlying f.type = some .bool := by
                unfold tkOf at hx
                split at hx <;> first | assumption | (injection hx with hx; cases hx) | cases hx
              have hpx : (part f.type xs f.offset).run P w = .ok u w := by simp [part, isAgg, run_underlying ht, hc.1, hu]
              have hpy : (part f.type ys f.offset).run P w = .ok v w := by simp [part, isAgg, run_underlying ht, hc.1, hv]
              have ih := eqFields_ok (P := P) (w := w) (d := d) hl hb' h1' h2'
              have heq : (Op.equalIn (d + 1) f.type u v).run P w = .ok (decide (x = y)) w := by
                rw [hru, hrv]
                simp [Op.equalIn, run_underlying ht]
                cases x <;> cases y <;> rfl
              simp only [Op.eqFields, if_pos hne, Sem.run_bind, hpx, hpy, Result.andThen_ok, heq]
              cases decide (x = y) with
              | true => simp [ih]
              | false => simp
      · cases hf
    · cases hf

theorem op_eql_struct {op : BinOp} {tx ty' : TypeId} {x y : Operand} {vx vy : V} {ds es : List Dat} {ts : List TK} {b : Bool} (hop : op = .eql ∨ op = .neq) (hx : Has c st x vx) (hy : Has c st y vy) (hvx : vx.norm = .aggd ds) (hvy : vy.norm = .aggd es) (hT : flatS c.P tx = some ts) (hb : eqDs ts ds es = some b)
    (ht : Nat.blt t c.N = true) (hK : K (st.put t (.one (.dat (.bool (if op = .eql then b else !b)))))) : AOp c ⟨some t, .binOp op tx x y ty', ty, pos, af, gd⟩ st K :=
  aop_pure rfl ht (fun Φ a w hr => by
    have h1 := has_norm hx Φ a w hr
    have h2 := has_norm hy Φ a w hr
    rw [hvx, RV] at h1
    rw [hvy, RV] at h2
    obtain ⟨xs, e1, a1⟩ := h1
    obtain ⟨ys, e2, a2⟩ := h2
    unfold flatS at hT
    split at hT
    · rename_i fs hu
      split at hT
      · rename_i hc
        have hfo : c.P.underlying tx = some (.struct (c.P.fieldsOf tx)) := by simp [Program.fieldsOf, hu]
        have hfo' : c.P.fieldsOf tx = fs := by simp [Program.fieldsOf, hu]
        have hrun : (Op.equalIn 10000 tx (.agg xs.toArray) (.agg ys.toArray)).run c.P w = .ok b w := by
          rw [run_equalIn_struct w 9999 tx _ _ hfo hc.1, hfo']
          exact eqFields_ok (A := Φ.A) (d := 9998) hT hb (by simpa using a1) (by simpa using a2)
        have hg := run_eqGuard_agg w op tx x y xs.toArray ys.toArray hc.2
        rcases hop with rfl | rfl
        · refine ⟨.bool b, ?_, by simp only [if_true]; exact rv_mk_bool⟩
          simp [execOp, e1, e2, hg, run_eql_struct, hrun]
        · refine ⟨.bool (!b), ?_, by simp only [reduceCtorEq, if_false]; exact rv_mk_bool⟩
          simp [execOp, e1, e2, hg, run_neq_struct, hrun]
      · cases hT
    · cases hT) hK

theorem op_nilCheck {x : Operand} {r : Ref} {off : Nat} (hx : Has c st x (.one (.ref r off))) (ht : Nat.blt t c.N = true) (hK : K (st.put t (.one (.ref r off)))) : AOp c ⟨some t, .nilCheck x, ty, pos, af, gd⟩ st K :=
  aop_pure rfl ht (fun Φ a w hr => by
    have h := rv_ref (hx Φ a w hr)
    exact ⟨.pointer (some ⟨Φ.μ r, off, none⟩), by simp [execOp, h], by rw [RV, RC]⟩) hK
theorem op_nilCheck_fn {x : Operand} {f : FuncId} {caps : List Ref} (hx : Has c st x (.one (.fn f caps))) (ht : Nat.blt t c.N = true) (hK : K (st.put t (.one (.fn f caps)))) : AOp c ⟨some t, .nilCheck x, ty, pos, af, gd⟩ st K :=
  aop_pure rfl ht (fun Φ a w hr => by
    have h := hx Φ a w hr
    refine ⟨a.eval x, ?_, h⟩
    rw [RV, RC] at h
    simp [execOp, h]) hK
end
end Go.TQ
