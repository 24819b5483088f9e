/- The abstract domain of this proof: data by value, cells, values, states, and what each says of the machine's memory. Own work. -/
import Derived.Calls
import Derived.Orders
import Derived.Laws.Cells
import Derived.Laws.CopyRow
import Derived.Laws.AppendOwn
import Derived.Laws.OwnMore
import Derived.Maps.AppendAt
import Derived.Laws.Entries
import Derived.KernelRfl
set_option linter.unusedVariables false
set_option linter.unusedSimpArgs false
namespace Go.TQ

/-! ### Short names for phrases of the printed proofs -/
theorem zk {p : Prop} (h : p := by kernel_rfl) : p := h
theorem zdc {p : Prop} (h : p := by decide) : p := h
theorem zom {p : Prop} (h : p := by first | omega | exact Int.natCast_nonneg _ | (simp only [List.length_map] at *; omega) | (simp only [List.length_map]; omega)) : p := h
theorem zen {p : Prop} (h : p := by first | assumption | omega | rfl | trivial | (simp; done) | (simp_all; done) | (simp at *; omega)) : p := h
theorem zbl {n m : Nat} (h : Nat.ble n m = true) : n ≤ m := Nat.le_of_ble_eq_true h
theorem zbz : (∀ a b : Bool, ((a && b) = true) = (a = true ∧ b = true)) ∧ (∀ a b : Bool, ((a || b) = true) = (a = true ∨ b = true)) ∧ (∀ a b : Bool, ((a || b) = false) = (a = false ∧ b = false)) ∧ (∀ a b : Bool, ((a && b) = false) = (a = false ∨ b = false)) ∧
    (∀ b : Bool, ((!b) = true) = (b = false)) ∧ (∀ b : Bool, ((!b) = false) = (b = true)) ∧ (∀ (p : Prop) [Decidable p], (decide p = true) = p) ∧ (∀ (p : Prop) [Decidable p], (decide p = false) = ¬ p) ∧ (∀ a b : Int, (¬ a < b) = (b ≤ a)) ∧ (∀ a b : Int, (¬ a ≤ b) = (b < a)) :=
  ⟨by simp, by simp, by simp, by simp, by simp, by simp, by simp, by simp, by simp, by simp⟩

/-! ### Pure data -/
inductive Dat where
  | int (k : IntKind) (n : Int)
  | bool (b : Bool)
  | str (s : ByteArray)
  | sl (rows : List (List Dat))
  deriving Inhabited

abbrev Arr := Nat → Option (List Value)

def InK (k : IntKind) (n : Int) : Prop := k.min ≤ n ∧ n ≤ k.max

def Uni (k : Nat) (rows : List (List Dat)) : Prop := ∀ r ∈ rows, r.length = k

mutual
def RD (A : Arr) : Dat → Value → Prop
  | .int k n, v => v = .int k n ∧ InK k n
  | .bool b, v => v = .bool b
  | .str s, v => v = .string s ∧ s.size ≤ maxLen
  | .sl rows, v => ∃ a cap, v = .slice a rows.length cap ∧ rows.length ≤ cap ∧ cap ≤ maxLen ∧
      (rows = [] ∨ ∃ k b o vs, 0 < k ∧ Uni k rows ∧ a = some ⟨b, o, none⟩ ∧ A b = some vs ∧ RDss A rows (vs.drop o))
def RDs (A : Arr) : List Dat → List Value → Prop
  | [], _ => True
  | d :: ds, vs => (∃ v, vs[0]? = some v ∧ RD A d v) ∧ RDs A ds (vs.drop 1)
def RDss (A : Arr) : List (List Dat) → List Value → Prop
  | [], _ => True
  | r :: rs, vs => RDs A r vs ∧ RDss A rs (vs.drop r.length)
end

theorem RDs_iff (A : Arr) : ∀ (ds : List Dat) (vs : List Value), RDs A ds vs ↔ ∀ (j : Nat) (d : Dat), ds[j]? = some d → ∃ v, vs[j]? = some v ∧ RD A d v
  | [], vs => by simp [RDs]
  | d :: ds, vs => by
    rw [RDs, RDs_iff A ds]
    constructor
    · rintro ⟨h0, h1⟩ j x hx
      cases j with
      | zero => simp at hx; subst hx; exact h0
      | succ j =>
        simp at hx
        obtain ⟨v, hv, hr⟩ := h1 j x hx
        exact ⟨v, by simpa [Nat.add_comm] using hv, hr⟩
    · intro h
      refine ⟨h 0 d (by simp), fun j x hx => ?_⟩
      obtain ⟨v, hv, hr⟩ := h (j + 1) x (by simpa using hx)
      exact ⟨v, by simpa [Nat.add_comm] using hv, hr⟩

theorem RDs_prefix (A : Arr) : ∀ (ds : List Dat) (vs us : List Value), RDs A ds vs → RDs A ds (vs ++ us) := by
  intro ds vs us h
  rw [RDs_iff] at h ⊢
  intro j d hd
  obtain ⟨v, hv, hr⟩ := h j d hd
  refine ⟨v, ?_, hr⟩
  rw [List.getElem?_append_left]
  · exact hv
  · exact (List.getElem?_eq_some_iff.1 hv).1

theorem RDs_length {A : Arr} {ds : List Dat} {vs : List Value} (h : RDs A ds vs) : ds.length ≤ vs.length := by
  rw [RDs_iff] at h
  rcases Nat.lt_or_ge vs.length ds.length with hl | hl
  · obtain ⟨v, hv, _⟩ := h vs.length ds[vs.length] (List.getElem?_eq_getElem hl)
    simp at hv
  · exact hl

theorem RDs_take {A : Arr} {ds : List Dat} {vs : List Value} (h : RDs A ds vs) (n : Nat) (hn : ds.length ≤ n) : RDs A ds (vs.take n) := by
  rw [RDs_iff] at h ⊢
  intro j d hd
  obtain ⟨v, hv, hr⟩ := h j d hd
  have := (List.getElem?_eq_some_iff.1 hd).1
  exact ⟨v, by rw [List.getElem?_take_of_lt (by omega)]; exact hv, hr⟩

theorem RDss_flat (A : Arr) : ∀ (rs : List (List Dat)) (vs : List Value), RDss A rs vs ↔ RDs A rs.flatten vs
  | [], vs => by simp [RDss, RDs]
  | r :: rs, vs => by
    rw [RDss, RDss_flat A rs, List.flatten_cons]
    constructor
    · rintro ⟨h1, h2⟩
      rw [RDs_iff] at h1 h2 ⊢
      intro j d hd
      rcases Nat.lt_or_ge j r.length with hj | hj
      · rw [List.getElem?_append_left hj] at hd
        exact h1 j d hd
      · rw [List.getElem?_append_right hj] at hd
        obtain ⟨v, hv, hr⟩ := h2 _ d hd
        refine ⟨v, ?_, hr⟩
        rw [List.getElem?_drop] at hv
        rwa [show r.length + (j - r.length) = j by omega] at hv
    · intro h
      rw [RDs_iff] at h
      rw [RDs_iff, RDs_iff]
      refine ⟨fun j d hd => ?_, fun j d hd => ?_⟩
      · have hj := (List.getElem?_eq_some_iff.1 hd).1
        exact h j d (by rw [List.getElem?_append_left hj]; exact hd)
      · obtain ⟨v, hv, hr⟩ := h (r.length + j) d (by rw [List.getElem?_append_right (by omega)]; simpa using hd)
        exact ⟨v, by rw [List.getElem?_drop]; exact hv, hr⟩

/-! ### What is typed stays: 'Grows' -/
def Grows (A A' : Arr) : Prop := ∀ b vs, A b = some vs → ∃ us, A' b = some (vs ++ us)
theorem Grows.refl (A : Arr) : Grows A A := fun b vs h => ⟨[], by simpa using h⟩
theorem Grows.trans {A B C : Arr} (h : Grows A B) (k : Grows B C) : Grows A C := fun b vs hb => by
  obtain ⟨us, hu⟩ := h b vs hb
  obtain ⟨ws, hw⟩ := k b _ hu
  exact ⟨us ++ ws, by simpa using hw⟩

theorem drop_append_some {vs us : List Value} {o j : Nat} {v : Value} (h : (vs.drop o)[j]? = some v) : ((vs ++ us).drop o)[j]? = some v := by
  rw [List.getElem?_drop] at h ⊢
  rw [List.getElem?_append_left (List.getElem?_eq_some_iff.1 h).1]
  exact h

mutual
theorem RD_grows {A A' : Arr} (g : Grows A A') : ∀ (d : Dat) (v : Value), RD A d v → RD A' d v
  | .int k n, v, h => by rw [RD] at h ⊢; exact h
  | .bool b, v, h => by rw [RD] at h ⊢; exact h
  | .str s, v, h => by rw [RD] at h ⊢; exact h
  | .sl rows, v, h => by
    rw [RD] at h ⊢
    obtain ⟨a, cap, hv, hl, hm, hr⟩ := h
    refine ⟨a, cap, hv, hl, hm, hr.imp id ?_⟩
    rintro ⟨k, b, o, vs, hk, hu, ha, hA, hss⟩
    obtain ⟨us, hu'⟩ := g b vs hA
    refine ⟨k, b, o, vs ++ us, hk, hu, ha, hu', ?_⟩
    have := RDss_grows g rows (vs.drop o) hss
    rw [RDss_flat, RDs_iff] at this ⊢
    intro j d hd
    obtain ⟨v, hv, hr⟩ := this j d hd
    exact ⟨v, drop_append_some hv, hr⟩
theorem RDs_grows {A A' : Arr} (g : Grows A A') : ∀ (ds : List Dat) (vs : List Value), RDs A ds vs → RDs A' ds vs
  | [], vs, h => by simp [RDs]
  | d :: ds, vs, h => by
    rw [RDs] at h ⊢
    obtain ⟨⟨v, hv, hr⟩, h2⟩ := h
    exact ⟨⟨v, hv, RD_grows g d v hr⟩, RDs_grows g ds _ h2⟩
theorem RDss_grows {A A' : Arr} (g : Grows A A') : ∀ (rs : List (List Dat)) (vs : List Value), RDss A rs vs → RDss A' rs vs
  | [], vs, h => by simp [RDss]
  | r :: rs, vs, h => by
    rw [RDss] at h ⊢
    exact ⟨RDs_grows g r vs h.1, RDss_grows g rs _ h.2⟩
end

theorem RD_one {A : Arr} {d : Dat} {v : Value} (h : RD A d v) : v.oneCell' = true := by
  cases d with
  | int k n => rw [RD] at h; rw [h.1]; rfl
  | bool b => rw [RD] at h; rw [h]; rfl
  | str s => rw [RD] at h; rw [h.1]; rfl
  | sl rows => rw [RD] at h; obtain ⟨a, cap, hv, _⟩ := h; rw [hv]; rfl

/-! ### Cells and values -/
inductive Ref where
  | o (t : Nat)
  | e (i : Nat)
  deriving DecidableEq, Inhabited

def Ref.beq : Ref → Ref → Bool
  | .o a, .o b => Nat.beq a b
  | .e a, .e b => Nat.beq a b
  | _, _ => false
theorem nbeq_iff (a b : Nat) : Nat.beq a b = true ↔ a = b := ⟨Nat.eq_of_beq_eq_true, fun h => by subst h; exact Nat.beq_refl a⟩
theorem Ref.beq_iff (a b : Ref) : Ref.beq a b = true ↔ a = b := by
  cases a <;> cases b <;> simp [Ref.beq, nbeq_iff]
theorem Ref.beq_self (a : Ref) : Ref.beq a a = true := (Ref.beq_iff a a).2 rfl
theorem Ref.beq_false {a b : Ref} (h : a ≠ b) : Ref.beq a b = false := by
  cases hb : Ref.beq a b
  · rfl
  · exact absurd ((Ref.beq_iff a b).1 hb) h

inductive Key where
  | one (d : Dat)
  | agg (ds : List Dat)
  deriving Inhabited
/-- An entry of a map: its key, the name under which its value is owned (if it is), its value. -/
structure ME where
  key : Key
  tok : Option Nat
  val : Dat
  deriving Inhabited

inductive C where
  | dat (d : Dat)
  | nilsl
  | slt (q : Nat) (rows : List (List Dat))
  | ref (r : Ref) (off : Nat)
  | imm (ds : List Dat)
  | nilp
  | bs (r : Ref) (k len cap : Nat)
  | fn (f : FuncId) (caps : List Ref)
  | map (r : Ref)
  | mapc (m : List ME)
  | any
  deriving Inhabited

inductive V where
  | one (c : C)
  | agg (cs : List C)
  | aggd (ds : List Dat)
  | tup (vs : List V)
  | cond (p : Bool) (v : V)
  deriving Inhabited

structure Cx where
  A : Arr
  μ : Ref → Nat
  τ : Nat → Value

def RC (Φ : Cx) : C → Value → Prop
  | .dat d, v => RD Φ.A d v
  | .nilsl, v => v = .slice none 0 0
  | .slt q rows, v => RD Φ.A (.sl rows) v ∧ v = Φ.τ q
  | .ref r off, v => v = .pointer (some ⟨Φ.μ r, off, none⟩)
  | .imm ds, v => ∃ b o vs, v = .pointer (some ⟨b, o, none⟩) ∧ Φ.A b = some vs ∧ RDs Φ.A ds (vs.drop o)
  | .nilp, v => v = .pointer none
  | .bs r k len cap, v => v = .slice (some ⟨Φ.μ r, 0, none⟩) len cap ∧ len ≤ cap ∧ cap ≤ maxLen
  | .fn f caps, v => v = .func (.func f) #[] (caps.map fun r => Value.pointer (some ⟨Φ.μ r, 0, none⟩)).toArray
  | .map r, v => v = .map (some (Φ.μ r))
  | .mapc _, _ => False
  | .any, v => v.oneCell' = true

theorem RC_one {Φ : Cx} {c : C} {v : Value} (h : RC Φ c v) : v.oneCell' = true := by
  cases c with
  | dat d => exact RD_one h
  | nilsl => rw [RC] at h; rw [h]; rfl
  | slt q rows => exact RD_one h.1
  | ref r off => rw [RC] at h; rw [h]; rfl
  | imm ds => obtain ⟨b, o, vs, hv, _⟩ := h; rw [hv]; rfl
  | nilp => rw [RC] at h; rw [h]; rfl
  | bs r k len cap => obtain ⟨hv, _⟩ := h; rw [hv]; rfl
  | fn f caps => rw [RC] at h; rw [h]; rfl
  | map r => rw [RC] at h; rw [h]; rfl
  | mapc m => exact h.elim
  | any => exact h

/-- Lists of cells, one by one. -/
def All2 {α β : Type} (R : α → β → Prop) : List α → List β → Prop
  | [], [] => True
  | a :: as, b :: bs => R a b ∧ All2 R as bs
  | _, _ => False
theorem All2.length {α β : Type} {R : α → β → Prop} : ∀ {as : List α} {bs : List β}, All2 R as bs → as.length = bs.length
  | [], [], _ => rfl
  | a :: as, b :: bs, h => by simp [All2.length h.2]
  | [], b :: bs, h => h.elim
  | a :: as, [], h => h.elim
theorem All2.mono {α β : Type} {R R' : α → β → Prop} (hR : ∀ a b, R a b → R' a b) : ∀ {as : List α} {bs : List β}, All2 R as bs → All2 R' as bs
  | [], [], _ => trivial
  | a :: as, b :: bs, h => ⟨hR _ _ h.1, All2.mono hR h.2⟩
  | [], b :: bs, h => h.elim
  | a :: as, [], h => h.elim
theorem All2.map_left {α γ β : Type} {R : α → β → Prop} (f : γ → α) : ∀ {as : List γ} {bs : List β}, All2 (fun a b => R (f a) b) as bs ↔ All2 R (as.map f) bs
  | [], [] => Iff.rfl
  | a :: as, b :: bs => by simp only [All2, List.map_cons]; exact and_congr Iff.rfl (All2.map_left f)
  | [], b :: bs => Iff.rfl
  | a :: as, [] => Iff.rfl
theorem All2.append {α β : Type} {R : α → β → Prop} : ∀ {as as' : List α} {bs bs' : List β}, All2 R as bs → All2 R as' bs' → All2 R (as ++ as') (bs ++ bs')
  | [], _, [], _, _, h' => h'
  | a :: as, _, b :: bs, _, h, h' => ⟨h.1, All2.append h.2 h'⟩
  | [], _, b :: bs, _, h, _ => h.elim
  | a :: as, _, [], _, h, _ => h.elim
theorem All2.take {α β : Type} {R : α → β → Prop} : ∀ (n : Nat) {as : List α} {bs : List β}, All2 R as bs → All2 R (as.take n) (bs.take n)
  | 0, _, _, _ => by simp [All2]
  | n + 1, [], [], _ => by simp [All2]
  | n + 1, a :: as, b :: bs, h => ⟨h.1, All2.take n h.2⟩
  | n + 1, [], b :: bs, h => h.elim
  | n + 1, a :: as, [], h => h.elim
theorem All2.drop {α β : Type} {R : α → β → Prop} : ∀ (n : Nat) {as : List α} {bs : List β}, All2 R as bs → All2 R (as.drop n) (bs.drop n)
  | 0, _, _, h => h
  | n + 1, [], [], _ => by simp [All2]
  | n + 1, a :: as, b :: bs, h => All2.drop n h.2
  | n + 1, [], b :: bs, h => h.elim
  | n + 1, a :: as, [], h => h.elim
theorem All2.get {α β : Type} {R : α → β → Prop} : ∀ {as : List α} {bs : List β}, All2 R as bs → ∀ (j : Nat) (a : α), as[j]? = some a → ∃ b, bs[j]? = some b ∧ R a b
  | [], [], _, j, a, h => by simp at h
  | a :: as, b :: bs, h, 0, x, hx => by simp at hx; subst hx; exact ⟨b, by simp, h.1⟩
  | a :: as, b :: bs, h, j + 1, x, hx => by
    obtain ⟨y, hy, hr⟩ := All2.get h.2 j x (by simpa using hx)
    exact ⟨y, by simpa using hy, hr⟩
  | [], b :: bs, h, _, _, _ => h.elim
  | a :: as, [], h, _, _, _ => h.elim
theorem All2.right {α β : Type} {R : α → β → Prop} {p : β → Prop} (hp : ∀ a b, R a b → p b) : ∀ {as : List α} {bs : List β}, All2 R as bs → ∀ b ∈ bs, p b
  | [], [], _ => by simp
  | a :: as, b :: bs, h => by
    intro x hx
    rcases List.mem_cons.1 hx with rfl | hx
    · exact hp _ _ h.1
    · exact All2.right hp h.2 x hx
  | [], b :: bs, h => h.elim
  | a :: as, [], h => h.elim

theorem All2_of_RDs {A : Arr} {ds : List Dat} {vs : List Value} (h : RDs A ds vs) : All2 (RD A) ds (vs.take ds.length) := by
  induction ds generalizing vs with
  | nil => simp [All2]
  | cons d ds ih =>
    rw [RDs] at h
    obtain ⟨⟨v, hv, hr⟩, h2⟩ := h
    cases vs with
    | nil => simp at hv
    | cons u us =>
      simp at hv
      subst hv
      simp only [List.length_cons, List.take_succ_cons, All2]
      exact ⟨hr, ih h2⟩
theorem RDs_of_All2 {A : Arr} : ∀ {ds : List Dat} {vs : List Value}, All2 (RD A) ds vs → RDs A ds vs
  | [], _, _ => by simp [RDs]
  | d :: ds, v :: vs, h => by rw [RDs]; exact ⟨⟨v, by simp, h.1⟩, by simpa using RDs_of_All2 h.2⟩
  | d :: ds, [], h => h.elim

mutual
def RV (Φ : Cx) : V → Value → Prop
  | .one c, v => RC Φ c v
  | .agg cs, v => ∃ vs : List Value, v = .agg vs.toArray ∧ All2 (RC Φ) cs vs
  | .aggd ds, v => ∃ vs : List Value, v = .agg vs.toArray ∧ All2 (RD Φ.A) ds vs
  | .tup ws, v => ∃ vs : List Value, v = .tuple vs.toArray ∧ RVs Φ ws vs
  | .cond p w, v => (p = true → RV Φ w v) ∧ (p = false → v = undef)
def RVs (Φ : Cx) : List V → List Value → Prop
  | [], vs => vs = []
  | w :: ws, vs => ∃ v us, vs = v :: us ∧ RV Φ w v ∧ RVs Φ ws us
end
theorem RVs_All2 (Φ : Cx) : ∀ (ws : List V) (vs : List Value), RVs Φ ws vs ↔ All2 (RV Φ) ws vs
  | [], [] => by simp [RVs, All2]
  | [], v :: vs => by simp [RVs, All2]
  | w :: ws, [] => by simp [RVs, All2]
  | w :: ws, v :: vs => by
    rw [RVs, All2, ← RVs_All2 Φ ws vs]
    constructor
    · rintro ⟨v', us, h, h1, h2⟩
      cases h
      exact ⟨h1, h2⟩
    · rintro ⟨h1, h2⟩
      exact ⟨v, vs, rfl, h1, h2⟩


/-! ### Changing the cells of a value -/
mutual
def V.mapC (f : C → C) : V → V
  | .one c => .one (f c)
  | .agg cs => .agg (cs.map f)
  | .aggd ds => .aggd ds
  | .tup vs => .tup (V.mapCs f vs)
  | .cond p v => .cond p (V.mapC f v)
def V.mapCs (f : C → C) : List V → List V
  | [] => []
  | v :: vs => V.mapC f v :: V.mapCs f vs
end

theorem All2_mapC {Φ Φ' : Cx} {f : C → C} (hf : ∀ c v, RC Φ c v → RC Φ' (f c) v) {cs : List C} {vs : List Value} (h : All2 (RC Φ) cs vs) : All2 (RC Φ') (cs.map f) vs :=
  (All2.map_left f).1 (h.mono hf)

mutual
theorem RV_mapC {Φ Φ' : Cx} {f : C → C} (g : Grows Φ.A Φ'.A) (hf : ∀ c v, RC Φ c v → RC Φ' (f c) v) : ∀ (w : V) (v : Value), RV Φ w v → RV Φ' (w.mapC f) v
  | .one c, v, h => by rw [RV] at h; rw [V.mapC, RV]; exact hf c v h
  | .agg cs, v, h => by
    rw [RV] at h; rw [V.mapC, RV]
    obtain ⟨vs, hv, h2⟩ := h
    exact ⟨vs, hv, All2_mapC hf h2⟩
  | .aggd ds, v, h => by
    rw [RV] at h; rw [V.mapC, RV]
    obtain ⟨vs, hv, h2⟩ := h
    exact ⟨vs, hv, h2.mono fun d x hd => RD_grows g d x hd⟩
  | .tup ws, v, h => by
    rw [RV] at h; rw [V.mapC, RV]
    obtain ⟨vs, hv, h2⟩ := h
    exact ⟨vs, hv, RVs_mapC g hf ws vs h2⟩
  | .cond p w, v, h => by
    rw [RV] at h; rw [V.mapC, RV]
    exact ⟨fun hp => RV_mapC g hf w v (h.1 hp), h.2⟩
theorem RVs_mapC {Φ Φ' : Cx} {f : C → C} (g : Grows Φ.A Φ'.A) (hf : ∀ c v, RC Φ c v → RC Φ' (f c) v) : ∀ (ws : List V) (vs : List Value), RVs Φ ws vs → RVs Φ' (V.mapCs f ws) vs
  | [], vs, h => by rw [RVs] at h; rw [V.mapCs, RVs]; exact h
  | w :: ws, vs, h => by
    rw [RVs] at h; rw [V.mapCs, RVs]
    obtain ⟨v, us, he, h1, h2⟩ := h
    exact ⟨v, us, he, RV_mapC g hf w v h1, RVs_mapC g hf ws us h2⟩
end

/-- A slice that is nil, or owned, seen as data. -/
def C.norm : C → C
  | .nilsl => .dat (.sl [])
  | .slt _ rows => .dat (.sl rows)
  | c => c
theorem RC_norm {Φ : Cx} {c : C} {v : Value} (h : RC Φ c v) : RC Φ c.norm v := by
  cases c <;> try exact h
  · rw [RC] at h
    rw [C.norm, RC, RD]
    exact ⟨none, 0, h, Nat.le_refl _, Nat.zero_le _, .inl rfl⟩
  · exact h.1
def C.dats : List C → Option (List Dat)
  | [] => some []
  | .dat d :: cs => match C.dats cs with
    | some ds => some (d :: ds)
    | none => none
  | .nilsl :: cs => match C.dats cs with
    | some ds => some (.sl [] :: ds)
    | none => none
  | .slt _ rows :: cs => match C.dats cs with
    | some ds => some (.sl rows :: ds)
    | none => none
  | _ :: _ => none
theorem C.dats_all {Φ : Cx} : ∀ {cs : List C} {ds : List Dat} {vs : List Value}, C.dats cs = some ds → All2 (RC Φ) cs vs → All2 (RD Φ.A) ds vs
  | [], ds, vs, h, h2 => by
    simp [C.dats] at h
    subst h
    cases vs with
    | nil => trivial
    | cons v vs => exact h2.elim
  | c :: cs, ds, [], h, h2 => h2.elim
  | c :: cs, ds, v :: vs, h, h2 => by
    have hn := RC_norm h2.1
    cases c <;> simp only [C.dats] at h <;> try (cases h)
    all_goals
      split at h
      · rename_i ds' hd
        injection h with h
        subst h
        exact ⟨hn, C.dats_all hd h2.2⟩
      · cases h
mutual
def V.norm : V → V
  | .one c => .one c.norm
  | .agg cs => match C.dats cs with
    | some ds => .aggd ds
    | none => .agg (cs.map C.norm)
  | .aggd ds => .aggd ds
  | .tup vs => .tup (V.norms vs)
  | .cond p v => .cond p v
def V.norms : List V → List V
  | [] => []
  | v :: vs => V.norm v :: V.norms vs
end
mutual
theorem RV_norm {Φ : Cx} : ∀ (w : V) (v : Value), RV Φ w v → RV Φ w.norm v
  | .one c, v, h => by rw [RV] at h; rw [V.norm, RV]; exact RC_norm h
  | .agg cs, v, h => by
    rw [RV] at h
    obtain ⟨vs, hv, h2⟩ := h
    rw [V.norm]
    split
    · rename_i ds hd
      rw [RV]
      exact ⟨vs, hv, C.dats_all hd h2⟩
    · rw [RV]
      exact ⟨vs, hv, All2_mapC (fun c v => RC_norm) h2⟩
  | .aggd ds, v, h => by rw [V.norm]; exact h
  | .tup ws, v, h => by
    rw [RV] at h; rw [V.norm, RV]
    obtain ⟨vs, hv, h2⟩ := h
    exact ⟨vs, hv, RVs_norm ws vs h2⟩
  | .cond p w, v, h => by rw [V.norm]; exact h
theorem RVs_norm {Φ : Cx} : ∀ (ws : List V) (vs : List Value), RVs Φ ws vs → RVs Φ (V.norms ws) vs
  | [], vs, h => by rw [V.norms]; exact h
  | w :: ws, vs, h => by
    rw [RVs] at h; rw [V.norms, RVs]
    obtain ⟨v, us, he, h1, h2⟩ := h
    exact ⟨v, us, he, RV_norm w v h1, RVs_norm ws us h2⟩
end

def memR (r : Ref) : List Ref → Bool
  | [] => false
  | x :: xs => Ref.beq x r || memR r xs
theorem memR_iff (r : Ref) : ∀ l : List Ref, memR r l = true ↔ r ∈ l
  | [] => by simp [memR]
  | x :: xs => by simp only [memR, Bool.or_eq_true, Ref.beq_iff, memR_iff r xs, List.mem_cons]; exact or_congr eq_comm Iff.rfl
/-- Ownership under the name q is forgotten. -/
def ME.unq (q : Nat) (x : ME) : ME := { x with tok := match x.tok with
  | some p => bif Nat.beq p q then none else some p
  | none => none }
def C.unq (q : Nat) : C → C
  | .mapc m => .mapc (m.map (ME.unq q))
  | .slt p rows => bif Nat.beq p q then .dat (.sl rows) else .slt p rows
  | c => c
/-- What points to r is forgotten. -/
def C.scrub (r : Ref) : C → C
  | .ref s off => bif Ref.beq s r then .any else .ref s off
  | .bs s k off len => bif Ref.beq s r then .any else .bs s k off len
  | .map s => bif Ref.beq s r then .any else .map s
  | .fn f caps => bif memR r caps then .any else .fn f caps
  | c => c

/-! ### What a box holds: cells, or a map -/
def RK (A : Arr) : Key → Value → Prop
  | .one d, v => RD A d v
  | .agg ds, v => ∃ vs : List Value, v = .agg vs.toArray ∧ All2 (RD A) ds vs
theorem RK_grows {A A' : Arr} (g : Grows A A') {k : Key} {v : Value} (h : RK A k v) : RK A' k v := by
  cases k with
  | one d => exact RD_grows g d v h
  | agg ds => obtain ⟨vs, hv, h2⟩ := h; exact ⟨vs, hv, h2.mono fun d x hd => RD_grows g d x hd⟩
def RE (Φ : Cx) (x : ME) (e : MapEntry) : Prop := RK Φ.A x.key e.key ∧ RD Φ.A x.val e.val ∧ ∀ q, x.tok = some q → e.val = Φ.τ q
structure MapOK (Φ : Cx) (m : List ME) (es : Array MapEntry) (clock : Nat) : Prop where
  ents : All2 (RE Φ) m es.toList
  clock : clock = m.length
  born : ∀ (i : Nat) (e : MapEntry), es[i]? = some e → e.born = i
def BoxOK (Φ : Cx) (cs : List C) (o : Obj) : Prop :=
  (∃ vs e, o = .cells vs e (0, 0) ∧ All2 (RC Φ) cs vs.toList) ∨ ∃ m es clock, cs = [.mapc m] ∧ o = .map es clock ∧ MapOK Φ m es clock
def KeepM (Φ Φ' : Cx) (f : C → C) : Prop := ∀ m, ∃ m', f (.mapc m) = .mapc m' ∧ ∀ es clock, MapOK Φ m es clock → MapOK Φ' m' es clock
theorem keepM_same {Φ Φ' : Cx} {f : C → C} (hA : Grows Φ.A Φ'.A) (hτ : Φ'.τ = Φ.τ) (hf : ∀ m, f (.mapc m) = .mapc m) : KeepM Φ Φ' f := fun m =>
  ⟨m, hf m, fun es clock h => ⟨h.ents.mono fun x e hx => ⟨RK_grows hA hx.1, RD_grows hA _ _ hx.2.1, fun q hq => by rw [hτ]; exact hx.2.2 q hq⟩, h.clock, h.born⟩⟩
theorem BoxOK.mapC {Φ Φ' : Cx} {f : C → C} {cs : List C} {o : Obj} (h : BoxOK Φ cs o) (hf : ∀ c v, RC Φ c v → RC Φ' (f c) v) (hm : KeepM Φ Φ' f) : BoxOK Φ' (cs.map f) o := by
  rcases h with ⟨vs, e, h1, h2⟩ | ⟨m, es, clock, rfl, h1, h2⟩
  · exact .inl ⟨vs, e, h1, All2_mapC hf h2⟩
  · obtain ⟨m', h3, h4⟩ := hm m
    exact .inr ⟨m', es, clock, by simp [h3], h1, h4 es clock h2⟩
theorem BoxOK.mono {Φ Φ' : Cx} {cs : List C} {o : Obj} (h : BoxOK Φ cs o) (hf : ∀ c v, RC Φ c v → RC Φ' c v) (hA : Grows Φ.A Φ'.A) (hτ : Φ'.τ = Φ.τ) : BoxOK Φ' cs o := by
  have := h.mapC (f := fun x => x) hf (keepM_same hA hτ fun m => rfl)
  simpa using this
/-- No map. -/
def mapBox : List C → Bool
  | [.mapc _] => true
  | _ => false
theorem BoxOK.cells {Φ : Cx} {cs : List C} {o : Obj} (h : BoxOK Φ cs o) (hm : mapBox cs = false) : ∃ vs e, o = .cells vs e (0, 0) ∧ All2 (RC Φ) cs vs.toList := by
  rcases h with h | ⟨m, es, clock, rfl, h1, h2⟩
  · exact h
  · cases hm
theorem BoxOK.amap {Φ : Cx} {m : List ME} {o : Obj} (h : BoxOK Φ [.mapc m] o) : ∃ es clock, o = .map es clock ∧ MapOK Φ m es clock := by
  rcases h with ⟨vs, e, h1, h2⟩ | ⟨m', es, clock, h0, h1, h2⟩
  · match hv : vs.toList, h2 with
    | [], h2 => exact h2.elim
    | v :: vs', h2 => exact h2.1.elim
  · cases h0
    exact ⟨es, clock, h1, h2⟩

/-! ### States, contexts, the relation -/
structure St where
  sl : Nat → Option V
  bx : Ref → Option (List C)
  tk : Nat → Option (TypeId × Nat)

def St.put (st : St) (t : Nat) (v : V) : St := { st with sl := fun s => bif Nat.beq s t then some v else st.sl s }
def St.mapC (st : St) (f : C → C) : St := { st with sl := fun s => (st.sl s).map (V.mapC f), bx := fun r => (st.bx r).map (List.map f) }
def St.setB (st : St) (r : Ref) (cs : List C) : St := { st with bx := fun s => bif Ref.beq s r then some cs else st.bx s }
def St.delB (st : St) (r : Ref) : St := { st with bx := fun s => bif Ref.beq s r then none else st.bx s }
def St.setT (st : St) (q : Nat) (x : Option (TypeId × Nat)) : St := { st with tk := fun s => bif Nat.beq s q then x else st.tk s }

structure Ctx where
  P : Program
  N : Nat
  w0 : World
  A0 : Arr
  X : List Nat

structure Frm (w0 : World) (X : List Nat) (w : World) : Prop where
  os : w.os = w0.os
  tape : w.tape = w0.tape
  output : w.output = w0.output
  size : w0.heap.size ≤ w.heap.size
  block : ∀ k, k < w0.heap.size → k ∉ X → w.heap[k]? = w0.heap[k]?
theorem Frm.refl (w : World) (X : List Nat) : Frm w X w := ⟨rfl, rfl, rfl, Nat.le_refl _, fun _ _ _ => rfl⟩

def ArrOK (A : Arr) (w : World) : Prop := ∀ b vs, A b = some vs → ∃ cur e fr, w.heap[b]? = some (.cells cur e fr) ∧ ∃ us, cur.toList = vs ++ us

structure Rel (c : Ctx) (st : St) (Φ : Cx) (a : Act) (w : World) : Prop where
  size : a.tmps.size = c.N
  defers : a.defers = []
  slots : ∀ t v, st.sl t = some v → RV Φ v (a.tmps.getD t undef)
  boxes : ∀ r cs, st.bx r = some cs → ∃ o, w.heap[Φ.μ r]? = some o ∧ BoxOK Φ cs o
  own : ∀ r cs, st.bx r = some cs → Φ.A (Φ.μ r) = none ∧ (c.w0.heap.size ≤ Φ.μ r ∨ (Φ.μ r ∈ c.X ∧ ∃ i, r = .e i))
  inj : ∀ r r' cs cs', st.bx r = some cs → st.bx r' = some cs' → Φ.μ r = Φ.μ r' → r = r'
  toks : ∀ q e k, st.tk q = some (e, k) → ∃ n xs, 0 < k ∧ w.ownsRow c.w0.heap.size e k (Φ.τ q) n xs ∧ ∀ g, (Φ.τ q).ownBlock = some g → Φ.A g = some xs
  tinj : ∀ q q' x x' g, st.tk q = some x → st.tk q' = some x' → (Φ.τ q).ownBlock = some g → (Φ.τ q').ownBlock = some g → q = q'
  arr : ArrOK Φ.A w
  ext : ∀ i, i < c.X.length → c.X[i]? = some (Φ.μ (.e i))
  oldA : ∀ k, k < c.w0.heap.size → Φ.A k = c.A0 k
  grow : Grows c.A0 Φ.A
  fr : Frm c.w0 c.X w

section rel
variable {c : Ctx} {st : St} {Φ : Cx} {a : Act} {w : World}

theorem Rel.put (h : Rel c st Φ a w) {t : Nat} {v : V} {x : Value} (hv : RV Φ v x) (ht : Nat.blt t c.N = true) : Rel c (st.put t v) Φ (a.put (some t) x) w where
  size := by simpa [Act.put] using h.size
  defers := h.defers
  slots := by
    intro s u hs
    simp only [St.put] at hs
    have hlt : t < a.tmps.size := by rw [h.size]; exact Nat.le_of_ble_eq_true ht
    cases hb : Nat.beq s t with
    | true =>
      obtain rfl := (nbeq_iff s t).1 hb
      rw [hb] at hs
      simp only [cond_true, Option.some.injEq] at hs
      subst hs
      simpa [Act.put, hlt] using hv
    | false =>
      rw [hb] at hs
      have hne : t ≠ s := fun e => by subst e; rw [Nat.beq_refl] at hb; cases hb
      have := h.slots s u hs
      simpa [Act.put, Array.getD_eq_getD_getElem?, Array.getElem?_setIfInBounds, hne] using this
  boxes := h.boxes
  own := h.own
  inj := h.inj
  toks := h.toks
  tinj := h.tinj
  arr := h.arr
  ext := h.ext
  oldA := h.oldA
  grow := h.grow
  fr := h.fr

/-- Another draw changes nothing that is told. -/
theorem Rel.drew (h : Rel c st Φ a w) (n : Nat) : Rel c st Φ a { w with drawn := n } :=
  ⟨h.size, h.defers, h.slots, h.boxes, h.own, h.inj, h.toks, h.tinj, h.arr, h.ext, h.oldA, h.grow, ⟨h.fr.os, h.fr.tape, h.fr.output, h.fr.size, h.fr.block⟩⟩

/-- Names of cells may be forgotten where the world stays. -/
theorem Rel.mapC (h : Rel c st Φ a w) {f : C → C} (hf : ∀ x v, RC Φ x v → RC Φ (f x) v) (hm : KeepM Φ Φ f) : Rel c (st.mapC f) Φ a w where
  size := h.size
  defers := h.defers
  slots := by
    intro t v ht
    simp only [St.mapC, Option.map_eq_some_iff] at ht
    obtain ⟨u, hu, rfl⟩ := ht
    exact RV_mapC (Grows.refl _) hf _ _ (h.slots t u hu)
  boxes := by
    intro r cs hr
    simp only [St.mapC, Option.map_eq_some_iff] at hr
    obtain ⟨us, hu, rfl⟩ := hr
    obtain ⟨o, h1, h2⟩ := h.boxes r us hu
    exact ⟨o, h1, h2.mapC hf hm⟩
  own := by
    intro r cs hr
    simp only [St.mapC, Option.map_eq_some_iff] at hr
    obtain ⟨us, hu, rfl⟩ := hr
    exact h.own r us hu
  inj := by
    intro r r' cs cs' hr hr'
    simp only [St.mapC, Option.map_eq_some_iff] at hr hr'
    obtain ⟨us, hu, rfl⟩ := hr
    obtain ⟨us', hu', rfl⟩ := hr'
    exact h.inj r r' us us' hu hu'
  toks := h.toks
  tinj := h.tinj
  arr := h.arr
  ext := h.ext
  oldA := h.oldA
  grow := h.grow
  fr := h.fr
end rel

/-! ### Operands -/
def Has (c : Ctx) (st : St) (x : Operand) (v : V) : Prop := ∀ Φ a w, Rel c st Φ a w → RV Φ v (a.eval x)
section has
variable {c : Ctx} {st : St} {x : Operand} {v : V}
theorem zt {t : Nat} (h : st.sl t = some v) : Has c st (.tmp t) v := fun Φ a w hr => by
  rw [Act.eval]
  exact hr.slots t v h
theorem zi {k : IntKind} {n : Int} (h : InK k n) : Has c st (.const (.int k n)) (.one (.dat (.int k n))) := fun Φ a w hr => by
  rw [RV, RC, RD]
  exact ⟨rfl, h⟩
theorem zb0 {b : Bool} : Has c st (.const (.bool b)) (.one (.dat (.bool b))) := fun Φ a w hr => by
  rw [RV, RC, RD]
  rfl
theorem has_str {s : ByteArray} (h : s.size ≤ maxLen) : Has c st (.const (.string s)) (.one (.dat (.str s))) := fun Φ a w hr => by
  rw [RV, RC, RD]
  exact ⟨rfl, h⟩
theorem has_nil : Has c st (.const (.slice none 0 0)) (.one .nilsl) := fun Φ a w hr => by
  rw [RV, RC]
  rfl
theorem zhf {f : FuncId} : Has c st (.func f) (.one (.fn f [])) := fun Φ a w hr => by
  rw [RV, RC]
  rfl
theorem has_norm (h : Has c st x v) : Has c st x v.norm := fun Φ a w hr => RV_norm v _ (h Φ a w hr)
theorem zcd {p : Bool} (h : Has c st x (.cond p v)) (hp : p = true) : Has c st x v := fun Φ a w hr => by
  have := h Φ a w hr
  rw [RV] at this
  exact this.1 hp
end has

/-! ### One operation; the operations of a region; code -/
def AOp (c : Ctx) (o : Oper) (st : St) (K : St → Prop) : Prop :=
  ∀ Φ a w, Rel c st Φ a w → ∀ (K' : Act → World → Prop) (Q : Exit → Act → World → Prop),
    (∀ st' Φ' a' w', Rel c st' Φ' a' w' → K st' → K' a' w') → o.wp c.P a w K' Q

def AOps (c : Ctx) (ops : Array Oper) (l : List Oper) (st : St) (K : St → Prop) : Prop :=
  ∀ Φ a w, Rel c st Φ a w → ∀ (Q : Exit → Act → World → Prop),
    (∀ st' Φ' a' w', Rel c st' Φ' a' w' → K st' → Q .normal a' w') → wpList c.P ops Q l a w

def AWP (c : Ctx) (code : Code) (st : St) (Q : Exit → St → Prop) : Prop :=
  ∀ Φ a w, Rel c st Φ a w → code.wp c.P (fun e a' w' => ∃ st' Φ', Rel c st' Φ' a' w' ∧ Q e st') a w

def thn (K : St → Prop) (Q : Exit → St → Prop) : Exit → St → Prop
  | .normal, s => K s
  | e, s => Q e s
def blk (id : Nat) (Q : Exit → St → Prop) : Exit → St → Prop
  | .exit i, s => if i = id then Q .normal s else Q (.exit i) s
  | e, s => Q e s

section code
variable {c : Ctx} {st : St} {K : St → Prop} {Q : Exit → St → Prop} {ops : Array Oper} {o : Oper} {l : List Oper}

theorem zn0 (h : K st) : AOps c ops [] st K := fun Φ a w hr Q hQ => wpList_nil (hQ st Φ a w hr h)
theorem zc (hg : o.guard = none) (h : AOp c o st fun st' => AOps c ops l st' K) : AOps c ops (o :: l) st K := fun Φ a w hr Q hQ =>
  wpList_plain hg fun K' hK' => h Φ a w hr K' Q fun st' Φ' a' w' hr' hs => hK' _ _ (hs Φ' a' w' hr' Q hQ)

theorem awp_region {id : Nat} {l : List Oper} (h : AOps c l.toArray l st fun st' => Q .normal st') : AWP c (.region id l.toArray false) st Q := fun Φ a w hr =>
  wp_region_lit (h Φ a w hr _ fun st' Φ' a' w' hr' hs => ⟨st', Φ', hr', hs⟩)
theorem awp_mono {code : Code} {Q' : Exit → St → Prop} (h : AWP c code st Q) (hQ : ∀ e s, Q e s → Q' e s) : AWP c code st Q' := fun Φ a w hr =>
  wp_mono (h Φ a w hr) fun e a' w' ⟨st', Φ', hr', hs⟩ => ⟨st', Φ', hr', hQ e st' hs⟩
theorem zw2 {x y : Code} (h : AWP c x st (thn (fun s => AWP c y s Q) Q)) : AWP c (.seq x y) st Q := fun Φ a w hr => by
  refine wp_seq (wp_mono (h Φ a w hr) ?_)
  rintro e a' w' ⟨st', Φ', hr', hs⟩
  cases e with
  | normal => exact hs Φ' a' w' hr'
  | _ => exact ⟨st', Φ', hr', hs⟩
theorem zws (h : Q .normal st) : AWP c .skip st Q := fun Φ a w hr => wp_skip ⟨st, Φ, hr, h⟩
theorem zwr (h : Q .ret st) : AWP c .ret st Q := fun Φ a w hr => wp_ret ⟨st, Φ, hr, h⟩
theorem zwe {id : Nat} (h : Q (.exit id) st) : AWP c (.exit id) st Q := fun Φ a w hr => wp_exit ⟨st, Φ, hr, h⟩
theorem zwc {x : Operand} {y z : Code} {b : Bool} (hx : Has c st x (.one (.dat (.bool b)))) (ht : b = true → AWP c y st Q) (hf : b = false → AWP c z st Q) :
    AWP c (.cond x y z) st Q := fun Φ a w hr => by
  have h := hx Φ a w hr
  rw [RV, RC, RD] at h
  exact wp_cond_split h (fun e => ht e Φ a w hr) (fun e => hf e Φ a w hr)
theorem zwb {id : Nat} {x : Code} (h : AWP c x st (blk id Q)) : AWP c (.block id x) st Q := fun Φ a w hr => by
  refine wp_block (wp_mono (h Φ a w hr) ?_)
  rintro e a' w' ⟨st', Φ', hr', hs⟩
  cases e with
  | exit i =>
    simp only [blk] at hs
    simp only [Exit.inBlock]
    split
    · rename_i hi
      rw [if_pos hi] at hs
      exact ⟨st', Φ', hr', hs⟩
    · rename_i hi
      rw [if_neg hi] at hs
      exact ⟨st', Φ', hr', hs⟩
  | _ => exact ⟨st', Φ', hr', hs⟩

/-- A state that says less. -/
def Le (c : Ctx) (st st' : St) : Prop := ∀ Φ a w, Rel c st Φ a w → ∃ Φ', Rel c st' Φ' a w
theorem Le.refl (c : Ctx) (st : St) : Le c st st := fun Φ a w h => ⟨Φ, h⟩
theorem Le.trans {s1 s2 s3 : St} (h : Le c s1 s2) (k : Le c s2 s3) : Le c s1 s3 := fun Φ a w hr => by
  obtain ⟨Φ', hr'⟩ := h Φ a w hr
  exact k Φ' a w hr'
theorem awp_le {code : Code} {st' : St} (h : Le c st st') (k : AWP c code st' Q) : AWP c code st Q := fun Φ a w hr => by
  obtain ⟨Φ', hr'⟩ := h Φ a w hr
  exact k Φ' a w hr'
theorem aops_le {st' : St} (h : Le c st st') (k : AOps c ops l st' K) : AOps c ops l st K := fun Φ a w hr => by
  obtain ⟨Φ', hr'⟩ := h Φ a w hr
  exact k Φ' a w hr'
/-- A pure fact that the state bears. -/
theorem awp_fact {code : Code} {F : Prop} (h : ∀ Φ a w, Rel c st Φ a w → F) (k : F → AWP c code st Q) : AWP c code st Q := fun Φ a w hr => k (h Φ a w hr) Φ a w hr
theorem aops_fact {F : Prop} (h : ∀ Φ a w, Rel c st Φ a w → F) (k : F → AOps c ops l st K) : AOps c ops l st K := fun Φ a w hr => k (h Φ a w hr) Φ a w hr

theorem awp_loop {ι : Type} (S : ι → St) (I : ι → Prop) (m : ι → Nat) {body : Code} (i0 : ι) (h0 : Le c st (S i0)) (hI : I i0)
    (round : ∀ i, I i → AWP c body (S i) (thn (fun s => ∃ i', I i' ∧ m i' < m i ∧ Le c s (S i')) Q)) : AWP c (.loop body) st Q := fun Φ a w hr => by
  obtain ⟨Φ0, hr0⟩ := h0 Φ a w hr
  intro b k cs
  have key : ∀ n i, m i = n → I i → ∀ Φ a w, Rel c (S i) Φ a w → ∃ e a' w', (∃ st' Φ', Rel c st' Φ' a' w' ∧ Q e st') ∧ Arrives c.P (lone (b.at a (.code body :: .inLoop body :: k)) cs w) b k cs e a' w' := by
    intro n
    induction n using Nat.strongRecOn with
    | _ n ih =>
      intro i hn hi Φ a w hr
      obtain ⟨e, a1, w1, hq, harr⟩ := round i hi Φ a w hr b (.inLoop body :: k) cs
      obtain ⟨st1, Φ1, hr1, hs⟩ := hq
      cases e with
      | normal =>
        obtain ⟨i', hi', hm, hle⟩ := hs
        obtain ⟨Φ2, hr2⟩ := hle Φ1 a1 w1 hr1
        obtain ⟨e2, a2, w2, hq2, harr2⟩ := ih (m i') (hn ▸ hm) i' rfl hi' Φ2 a1 w1 hr2
        exact ⟨e2, a2, w2, hq2, .of_steps (.trans harr (.one step_inLoop)) harr2⟩
      | exit id => exact ⟨_, a1, w1, ⟨st1, Φ1, hr1, hs⟩, .pass (x := .inLoop body) rfl (fun _ _ => .inl (by simp)) harr⟩
      | goto l => exact ⟨_, a1, w1, ⟨st1, Φ1, hr1, hs⟩, .pass (x := .inLoop body) rfl (fun _ _ => .inl (by simp)) harr⟩
      | ret => exact ⟨_, a1, w1, ⟨st1, Φ1, hr1, hs⟩, .pass (x := .inLoop body) rfl (fun _ _ => .inl (by simp)) harr⟩
      | panic ch => exact ⟨_, a1, w1, ⟨st1, Φ1, hr1, hs⟩, .pass (x := .inLoop body) rfl (fun _ _ => .inl (by simp)) harr⟩
      | outgrown => exact ⟨_, a1, w1, ⟨st1, Φ1, hr1, hs⟩, .pass (x := .inLoop body) rfl (fun _ _ => .inl (by simp)) harr⟩
  obtain ⟨e, a', w', hq, harr⟩ := key _ i0 rfl hI Φ0 a w hr0
  exact ⟨e, a', w', hq, .of_steps (.one step_loop) harr⟩
end code

end Go.TQ
