/- The types of the package api as Lean structures, and how they lie in cells. Own work. -/
import Derived.Test.YtmfiplnojbjcbaaGreatAbsN
set_option linter.unusedVariables false
set_option linter.unusedSimpArgs false
namespace Go.TQ

abbrev VI (n : Int) : V := .one (.dat (.int .i64 n))
abbrev VB (b : Bool) : V := .one (.dat (.bool b))
abbrev VS (s : ByteArray) : V := .one (.dat (.str s))
abbrev VR (rows : List (List Dat)) : V := .one (.dat (.sl rows))
abbrev DI (n : Int) : Dat := .int .i64 n

def iRow (n : Int) : List Dat := [.int .i64 n]
abbrev iRows (l : List Int) : List (List Dat) := l.map iRow

inductive Trust where
  | mk (thr : Int) (nodes : List Int) (inner : List Trust)
  deriving Inhabited
def Trust.thr : Trust → Int | .mk a _ _ => a
def Trust.nodes : Trust → List Int | .mk _ b _ => b
def Trust.inner : Trust → List Trust | .mk _ _ c => c
mutual
def Trust.enc : Trust → List Dat
  | .mk a b c => [.int .i64 a, .sl (b.map iRow), .sl (encTs c)]
def encTs : List Trust → List (List Dat)
  | [] => []
  | t :: ts => t.enc :: encTs ts
end
theorem encTs_map : ∀ l : List Trust, encTs l = l.map Trust.enc
  | [] => by rw [encTs]; rfl
  | t :: ts => by rw [encTs, encTs_map ts]; rfl
/-- The cells of a trust, told so that they show. -/
def Trust.d (t : Trust) : List Dat := [.int .i64 t.thr, .sl (iRows t.nodes), .sl (t.inner.map Trust.enc)]
theorem Trust.enc_d (t : Trust) : t.enc = t.d := by cases t with | mk a b c => simp [Trust.enc, Trust.d, Trust.thr, Trust.nodes, Trust.inner, encTs_map]
theorem Trust.enc_eq : Trust.enc = Trust.d := funext Trust.enc_d
abbrev tRows (l : List Trust) : List (List Dat) := l.map Trust.d

structure Ballot where
  c : Int
  v : ByteArray
  deriving DecidableEq, Inhabited
def Ballot.d (b : Ballot) : List Dat := [.int .i64 b.c, .str b.v]
def Ballot.zero : Ballot := ⟨0, ⟨#[]⟩⟩

structure Env where
  node : Int
  slot : Int
  seq : Int
  trust : Trust
  kind : Int
  b : Ballot
  p : Ballot
  q : Ballot
  low : Int
  high : Int
  deriving Inhabited
def Env.d (e : Env) : List Dat := [.int .i64 e.node, .int .i64 e.slot, .int .i64 e.seq, .int .i64 e.trust.thr, .sl (iRows e.trust.nodes), .sl (e.trust.inner.map Trust.enc), .int .i64 e.kind,
  .int .i64 e.b.c, .str e.b.v, .int .i64 e.p.c, .str e.p.v, .int .i64 e.q.c, .str e.q.v, .int .i64 e.low, .int .i64 e.high]
def Trust.zero : Trust := .mk 0 [] []
def Env.zero : Env := ⟨0, 0, 0, Trust.zero, 0, Ballot.zero, Ballot.zero, Ballot.zero, 0, 0⟩

structure Nom where
  node : Int
  seq : Int
  trust : Trust
  votes : List ByteArray
  accepts : List ByteArray
  deriving Inhabited
def sRow (s : ByteArray) : List Dat := [.str s]
def Nom.d (n : Nom) : List Dat := [.int .i64 n.node, .int .i64 n.seq, .int .i64 n.trust.thr, .sl (iRows n.trust.nodes), .sl (n.trust.inner.map Trust.enc), .sl (n.votes.map sRow), .sl (n.accepts.map sRow)]
def Nom.zero : Nom := ⟨0, 0, Trust.zero, [], []⟩

structure Letter where
  kind : Int
  slot : Int
  nom : Nom
  env : Env
  deriving Inhabited
def Letter.d (l : Letter) : List Dat := [.int .i64 l.kind, .int .i64 l.slot,
  .int .i64 l.nom.node, .int .i64 l.nom.seq, .int .i64 l.nom.trust.thr, .sl (iRows l.nom.trust.nodes), .sl (l.nom.trust.inner.map Trust.enc), .sl (l.nom.votes.map sRow), .sl (l.nom.accepts.map sRow),
  .int .i64 l.env.node, .int .i64 l.env.slot, .int .i64 l.env.seq, .int .i64 l.env.trust.thr, .sl (iRows l.env.trust.nodes), .sl (l.env.trust.inner.map Trust.enc), .int .i64 l.env.kind,
  .int .i64 l.env.b.c, .str l.env.b.v, .int .i64 l.env.p.c, .str l.env.p.v, .int .i64 l.env.q.c, .str l.env.q.v, .int .i64 l.env.low, .int .i64 l.env.high]

structure Sighting where
  time : Int
  fr : Int
  l : Letter
  deriving Inhabited
def Sighting.d (s : Sighting) : List Dat := [.int .i64 s.time, .int .i64 s.fr, .int .i64 s.l.kind, .int .i64 s.l.slot,
  .int .i64 s.l.nom.node, .int .i64 s.l.nom.seq, .int .i64 s.l.nom.trust.thr, .sl (iRows s.l.nom.trust.nodes), .sl (s.l.nom.trust.inner.map Trust.enc), .sl (s.l.nom.votes.map sRow), .sl (s.l.nom.accepts.map sRow),
  .int .i64 s.l.env.node, .int .i64 s.l.env.slot, .int .i64 s.l.env.seq, .int .i64 s.l.env.trust.thr, .sl (iRows s.l.env.trust.nodes), .sl (s.l.env.trust.inner.map Trust.enc), .int .i64 s.l.env.kind,
  .int .i64 s.l.env.b.c, .str s.l.env.b.v, .int .i64 s.l.env.p.c, .str s.l.env.p.v, .int .i64 s.l.env.q.c, .str s.l.env.q.v, .int .i64 s.l.env.low, .int .i64 s.l.env.high]

structure Finding where
  node : Int
  slot : Int
  kind : Int
  value : ByteArray
  needs : List Int
  deriving Inhabited, DecidableEq
def Finding.d (f : Finding) : List Dat := [.int .i64 f.node, .int .i64 f.slot, .int .i64 f.kind, .str f.value, .sl (iRows f.needs)]
def Finding.zero : Finding := ⟨0, 0, 0, ⟨#[]⟩, []⟩

structure Member where
  declared : Bool
  trust : Trust
  deriving Inhabited
def Member.d (m : Member) : List Dat := [.bool m.declared, .int .i64 m.trust.thr, .sl (iRows m.trust.nodes), .sl (m.trust.inner.map Trust.enc)]
abbrev Config := List Member
def Config.d (c : Config) : List Dat := [.sl (c.map Member.d)]

/-! ### Rows -/
theorem map_get {α : Type} {f : α → List Dat} {l : List α} {i : Nat} {x : α} (h : l[i]? = some x) : (l.map f)[i]? = some (f x) := by simp [h]
theorem map_getD {α : Type} [Inhabited α] {f : α → List Dat} {l : List α} {i : Nat} (h : i < l.length) : (l.map f)[i]? = some (f l[i]!) := by simp [h]
theorem uni_map {α : Type} {f : α → List Dat} {n : Nat} (h : ∀ x, (f x).length = n) (l : List α) : Uni n (l.map f) := by
  intro r hr
  obtain ⟨x, _, rfl⟩ := List.mem_map.1 hr
  exact h x
theorem uni_snoc {n : Nat} {rows : List (List Dat)} {r : List Dat} (h : Uni n rows) (k : r.length = n) : Uni n (rows ++ [r]) := by
  intro x hx
  rcases List.mem_append.1 hx with h1 | h1
  · exact h x h1
  · simp at h1; subst h1; exact k
theorem uni_app {n : Nat} {rows rows' : List (List Dat)} (h : Uni n rows) (k : Uni n rows') : Uni n (rows ++ rows') := by
  intro x hx
  rcases List.mem_append.1 hx with h1 | h1
  · exact h x h1
  · exact k x h1
theorem sl_eq {st : St} {t : Nat} {v v' : V} (h : st.sl t = some v) (e : v' = v) : st.sl t = some v' := e ▸ h
theorem slt_eq {st : St} {t q : Nat} {rows rows' : List (List Dat)} (h : st.sl t = some (.one (.slt q rows))) (e : rows' = rows) : st.sl t = some (.one (.slt q rows')) := e ▸ h
theorem vi_eq {st : St} {t : Nat} {n n' : Int} (h : st.sl t = some (VI n)) (e : n' = n) : st.sl t = some (VI n') := e ▸ h
theorem bx_eq {st : St} {t : Ref} {v v' : List C} (h : st.bx t = some v) (e : v' = v) : st.bx t = some v' := e ▸ h
end Go.TQ
