/- From a contract over abstract values to what a statement over a slice of integers asks. Own work. -/
import Derived.Test.YtmfiplnojbjcbaaGreatApi
import Derived.Below
set_option linter.unusedVariables false
namespace Go.TQ
open Go.RowKit

def IsRow (k : IntKind) (w : World) (a : Option Addr) (len cap : Nat) (zs : List Int) : Prop :=
  (a = none ∧ len = 0 ∧ cap = 0 ∧ zs = []) ∨
  ∃ x, a = some x ∧ len ≤ cap ∧ cap ≤ maxLen ∧ zs.length = cap ∧ (∀ i, i < zs.length → w.cell? (x.add i) = some (.int k (zs.getD i 0))) ∧ ∀ n ∈ zs, (Lit.int k n).wf = true

theorem inK_of_wf {k : IntKind} {n : Int} (h : (Lit.int k n).wf = true) : InK k n := by
  simpa [Lit.wf, InK] using h

theorem rds_ints (A : Arr) : ∀ (zs : List Int) (vs : List Value), (∀ i, i < zs.length → vs[i]? = some (.int .i64 (zs.getD i 0))) → (∀ n ∈ zs, (Lit.int .i64 n).wf = true) → RDs A (iRows zs).flatten vs := by
  intro zs vs h hw
  have e : (iRows zs).flatten = zs.map (Dat.int .i64) := by
    clear h hw
    induction zs with
    | nil => rfl
    | cons z zs ih => simpa [iRows, iRow] using ih
  rw [e, RDs_iff]
  intro j d hd
  rw [List.getElem?_map] at hd
  rcases hz : zs[j]? with _ | z
  · rw [hz] at hd; simp at hd
  · rw [hz] at hd
    simp at hd
    subst hd
    have hl := (List.getElem?_eq_some_iff.1 hz).1
    refine ⟨_, h j hl, ?_⟩
    have e2 : zs.getD j 0 = z := by rw [List.getD, hz]; rfl
    rw [RD, e2]
    exact ⟨rfl, inK_of_wf (hw z (List.mem_of_getElem? hz))⟩

/-- A contract for a list of integers, at any slice of integers in any world. -/
theorem calls_ints {P : Program} {f : FuncId} (H : ∀ t : List Int, ACalls P f [VR (iRows t)] [] fun dd bb => dd = VB true ∧ bb = [])
    {a : Option Addr} {len cap : Nat} {zs : List Int} {w : World} (h : IsRow .i64 w a len cap zs) :
    Calls P f #[.slice a len cap] w fun e w' => e = .returned (.bool true) ∧ Below w.heap.size w w' := by
  have main : ∀ (A : Arr) (t : List Int), ArrOK A w → RD A (.sl (iRows t)) (.slice a len cap) → Calls P f #[.slice a len cap] w fun e w' => e = .returned (.bool true) ∧ Below w.heap.size w w' := by
    intro A t hA hr
    refine ((H t).2 ⟨A, fun _ => 0, fun _ => undef⟩ [] w [.slice a len cap] hA List.nodup_nil rfl (by simp) (by intro i cs h; simp at h) ⟨by rw [RV, RC]; exact hr, trivial⟩).mono ?_
    rintro e w' ⟨d, bx', Φ', v, rfl, k⟩
    obtain ⟨rfl, rfl⟩ := k.post
    have hv := k.val
    rw [RV, RC, RD] at hv
    subst hv
    exact ⟨rfl, k.fr.os, k.fr.tape, k.fr.output, k.fr.size, fun j hj => k.fr.block j hj (by simp)⟩
  rcases h with ⟨rfl, rfl, rfl, rfl⟩ | ⟨x, rfl, hl, hm, hz, hc, hw⟩
  · refine main (fun _ => none) [] (fun _ _ h => by cases h) ?_
    rw [RD]
    exact ⟨none, 0, rfl, Nat.le_refl _, Nat.zero_le _, .inl rfl⟩
  · rcases Nat.eq_zero_or_pos len with h0 | h0
    · subst h0
      refine main (fun _ => none) [] (fun _ _ h => by cases h) ?_
      rw [RD]
      exact ⟨some x, cap, rfl, hl, hm, .inl rfl⟩
    · have c0 := hc 0 (by omega)
      obtain ⟨b, o, s⟩ := x
      have key : ∃ cur e fr, w.heap[b]? = some (.cells cur e fr) ∧ s = none ∧ ∀ i, i < zs.length → cur[o + i]? = some (.int .i64 (zs.getD i 0)) := by
        have c1 : w.cell? ⟨b, o, s⟩ = some (.int .i64 (zs.getD 0 0)) := by simpa [Addr.add] using c0
        unfold World.cell? at c1
        simp only at c1
        split at c1
        · rename_i cur e fr hb
          cases s with
          | some s => simp at c1
          | none =>
            refine ⟨cur, e, fr, hb, rfl, fun i hi => ?_⟩
            have ci := hc i hi
            have ea : (⟨b, o, none⟩ : Addr).add i = ⟨b, o + i, none⟩ := by
              unfold Addr.add
              split
              · rename_i h; subst h; rfl
              · rfl
            rw [ea] at ci
            unfold World.cell? at ci
            simp only [hb] at ci
            simpa using ci
        · cases c1
      obtain ⟨cur, e, fr, hb, rfl, hcur⟩ := key
      refine main (fun j => if j = b then some cur.toList else none) (zs.take len) ?_ ?_
      · intro j vs hj
        by_cases hjb : j = b
        · subst hjb
          simp at hj
          subst hj
          exact ⟨cur, e, fr, hb, [], by simp⟩
        · simp [hjb] at hj
      · rw [RD]
        have hlen : (iRows (zs.take len)).length = len := by simp; omega
        refine ⟨some ⟨b, o, none⟩, cap, by rw [hlen], by rw [hlen]; exact hl, hm, .inr ⟨1, b, o, cur.toList, Nat.one_pos, ?_, rfl, by simp, ?_⟩⟩
        · intro r hr
          simp only [iRows, List.mem_map] at hr
          obtain ⟨n, _, rfl⟩ := hr
          rfl
        · rw [RDss_flat]
          refine rds_ints _ _ _ ?_ (fun n hn => hw n (List.mem_of_mem_take hn))
          intro i hi
          have hi' : i < len ∧ i < zs.length := by rw [List.length_take] at hi; omega
          rw [List.getElem?_drop, Array.getElem?_toList, hcur i hi'.2]
          congr 2
          simp [List.getD, List.getElem?_take_of_lt hi'.1]
end Go.TQ
