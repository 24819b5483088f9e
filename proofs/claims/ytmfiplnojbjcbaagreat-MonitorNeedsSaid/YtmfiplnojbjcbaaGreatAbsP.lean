/- Loops and joins over several variables, and what the printing program needs besides. Own work. -/
import Derived.Test.YtmfiplnojbjcbaaGreatApi
set_option linter.unusedVariables false
set_option linter.unusedSimpArgs false
namespace Go.TQ

theorem has_nilp {c : Ctx} {st : St} : Has c st (.const (.pointer none)) (.one .nilp) := fun Φ a w hr => by rw [RV, RC]; rfl
theorem has_nilmap {c : Ctx} {st : St} : Has c st (.const (.map none)) (.one .any) := fun Φ a w hr => by rw [RV, RC]; rfl
theorem nt {b : Bool} (h : b = false) : ¬ b = true := by rw [h]; simp
theorem l3 {st : St} {b d e : List C} (h : st.bx (.e 0) = some b) (k : st.bx (.e 1) = some d) (l : st.bx (.e 2) = some e) : BoxL st 0 [b, d, e] := ⟨h, k, l, trivial⟩
theorem map_snoc {α β : Type} (f : α → β) (l : List α) (x : α) : (l ++ [x]).map f = l.map f ++ [f x] := by simp
theorem filt_yes {α : Type} [Inhabited α] {p : α → Bool} {l : List α} {k : Nat} (h : k < l.length) (hp : p l[k]! = true) : (l.take k).filter p ++ [l[k]!] = (l.take (k + 1)).filter p := by
  rw [getElem!_pos l k h] at hp ⊢
  rw [List.take_succ_eq_append_getElem h, List.filter_append, List.filter_cons_of_pos hp]
  rfl
theorem filt_no {α : Type} [Inhabited α] {p : α → Bool} {l : List α} {k : Nat} (h : k < l.length) (hp : p l[k]! = false) : (l.take k).filter p = (l.take (k + 1)).filter p := by
  rw [getElem!_pos l k h] at hp
  rw [List.take_succ_eq_append_getElem h, List.filter_append, List.filter_cons_of_neg (by simp [hp])]
  simp
theorem zlp {c : Ctx} {st : St} {Q : Exit → St → Prop} {α : Type} {fs : List (Nat × V)} {fb : List (Ref × List C)} (ls : α → List (Nat × V)) (bs : α → List (Ref × List C)) (ts : α → List (Nat × (TypeId × Nat))) (I : α → Prop) (m : α → Nat) (x1 : α) {body : Code}
    (h0 : Le c st (St.of (fs ++ ls x1) (fb ++ bs x1) (ts x1))) (hI : I x1) (round : ∀ y1, I y1 → AWP c body (St.of (fs ++ ls y1) (fb ++ bs y1) (ts y1)) (thn (fun s => ∃ z1, I z1 ∧ m z1 < m y1 ∧ Le c s (St.of (fs ++ ls z1) (fb ++ bs z1) (ts z1))) Q)) : AWP c (.loop body) st Q :=
  awp_loop (ι := α) (fun p => St.of (fs ++ ls p) (fb ++ bs p) (ts p)) (fun p => I p) (fun p => m p) x1 h0 hI fun p hp => awp_mono (round p hp) fun e s h => by
    cases e with
    | normal => obtain ⟨z1, h1, h2, h3⟩ := h; exact ⟨z1, h1, h2, h3⟩
    | _ => exact h
theorem awp_join1 {c : Ctx} {st : St} {Q : Exit → St → Prop} {α : Type} {fs : List (Nat × V)} {fb : List (Ref × List C)} (ls : α → List (Nat × V)) (bs : α → List (Ref × List C)) (ts : α → List (Nat × (TypeId × Nat))) (I : α → Prop) {x y : Code}
    (h : AWP c x st (thn (fun s => ∃ z1, I z1 ∧ Le c s (St.of (fs ++ ls z1) (fb ++ bs z1) (ts z1))) Q)) (k : ∀ z1, I z1 → AWP c y (St.of (fs ++ ls z1) (fb ++ bs z1) (ts z1)) Q) : AWP c (.seq x y) st Q :=
  awp_join (ι := α) (fun p => St.of (fs ++ ls p) (fb ++ bs p) (ts p)) (fun p => I p) (awp_mono h fun e s h => by
    cases e with
    | normal => obtain ⟨z1, h1, h3⟩ := h; exact ⟨z1, h1, h3⟩
    | _ => exact h) fun p hp => k p hp
theorem awp_loop2 {c : Ctx} {st : St} {Q : Exit → St → Prop} {α β : Type} {fs : List (Nat × V)} {fb : List (Ref × List C)} (ls : α → β → List (Nat × V)) (bs : α → β → List (Ref × List C)) (ts : α → β → List (Nat × (TypeId × Nat))) (I : α → β → Prop) (m : α → β → Nat) (x1 : α) (x2 : β) {body : Code}
    (h0 : Le c st (St.of (fs ++ ls x1 x2) (fb ++ bs x1 x2) (ts x1 x2))) (hI : I x1 x2) (round : ∀ y1 y2, I y1 y2 → AWP c body (St.of (fs ++ ls y1 y2) (fb ++ bs y1 y2) (ts y1 y2)) (thn (fun s => ∃ z1 z2, I z1 z2 ∧ m z1 z2 < m y1 y2 ∧ Le c s (St.of (fs ++ ls z1 z2) (fb ++ bs z1 z2) (ts z1 z2))) Q)) : AWP c (.loop body) st Q :=
  awp_loop (ι := α × β) (fun p => St.of (fs ++ ls p.1 p.2) (fb ++ bs p.1 p.2) (ts p.1 p.2)) (fun p => I p.1 p.2) (fun p => m p.1 p.2) ⟨x1, x2⟩ h0 hI fun p hp => awp_mono (round p.1 p.2 hp) fun e s h => by
    cases e with
    | normal => obtain ⟨z1, z2, h1, h2, h3⟩ := h; exact ⟨⟨z1, z2⟩, h1, h2, h3⟩
    | _ => exact h
theorem awp_join2 {c : Ctx} {st : St} {Q : Exit → St → Prop} {α β : Type} {fs : List (Nat × V)} {fb : List (Ref × List C)} (ls : α → β → List (Nat × V)) (bs : α → β → List (Ref × List C)) (ts : α → β → List (Nat × (TypeId × Nat))) (I : α → β → Prop) {x y : Code}
    (h : AWP c x st (thn (fun s => ∃ z1 z2, I z1 z2 ∧ Le c s (St.of (fs ++ ls z1 z2) (fb ++ bs z1 z2) (ts z1 z2))) Q)) (k : ∀ z1 z2, I z1 z2 → AWP c y (St.of (fs ++ ls z1 z2) (fb ++ bs z1 z2) (ts z1 z2)) Q) : AWP c (.seq x y) st Q :=
  awp_join (ι := α × β) (fun p => St.of (fs ++ ls p.1 p.2) (fb ++ bs p.1 p.2) (ts p.1 p.2)) (fun p => I p.1 p.2) (awp_mono h fun e s h => by
    cases e with
    | normal => obtain ⟨z1, z2, h1, h3⟩ := h; exact ⟨⟨z1, z2⟩, h1, h3⟩
    | _ => exact h) fun p hp => k p.1 p.2 hp
theorem awp_loop3 {c : Ctx} {st : St} {Q : Exit → St → Prop} {α β γ : Type} {fs : List (Nat × V)} {fb : List (Ref × List C)} (ls : α → β → γ → List (Nat × V)) (bs : α → β → γ → List (Ref × List C)) (ts : α → β → γ → List (Nat × (TypeId × Nat))) (I : α → β → γ → Prop) (m : α → β → γ → Nat) (x1 : α) (x2 : β) (x3 : γ) {body : Code}
    (h0 : Le c st (St.of (fs ++ ls x1 x2 x3) (fb ++ bs x1 x2 x3) (ts x1 x2 x3))) (hI : I x1 x2 x3) (round : ∀ y1 y2 y3, I y1 y2 y3 → AWP c body (St.of (fs ++ ls y1 y2 y3) (fb ++ bs y1 y2 y3) (ts y1 y2 y3)) (thn (fun s => ∃ z1 z2 z3, I z1 z2 z3 ∧ m z1 z2 z3 < m y1 y2 y3 ∧ Le c s (St.of (fs ++ ls z1 z2 z3) (fb ++ bs z1 z2 z3) (ts z1 z2 z3))) Q)) : AWP c (.loop body) st Q :=
  awp_loop (ι := α × β × γ) (fun p => St.of (fs ++ ls p.1 p.2.1 p.2.2) (fb ++ bs p.1 p.2.1 p.2.2) (ts p.1 p.2.1 p.2.2)) (fun p => I p.1 p.2.1 p.2.2) (fun p => m p.1 p.2.1 p.2.2) ⟨x1, x2, x3⟩ h0 hI fun p hp => awp_mono (round p.1 p.2.1 p.2.2 hp) fun e s h => by
    cases e with
    | normal => obtain ⟨z1, z2, z3, h1, h2, h3⟩ := h; exact ⟨⟨z1, z2, z3⟩, h1, h2, h3⟩
    | _ => exact h
theorem awp_join3 {c : Ctx} {st : St} {Q : Exit → St → Prop} {α β γ : Type} {fs : List (Nat × V)} {fb : List (Ref × List C)} (ls : α → β → γ → List (Nat × V)) (bs : α → β → γ → List (Ref × List C)) (ts : α → β → γ → List (Nat × (TypeId × Nat))) (I : α → β → γ → Prop) {x y : Code}
    (h : AWP c x st (thn (fun s => ∃ z1 z2 z3, I z1 z2 z3 ∧ Le c s (St.of (fs ++ ls z1 z2 z3) (fb ++ bs z1 z2 z3) (ts z1 z2 z3))) Q)) (k : ∀ z1 z2 z3, I z1 z2 z3 → AWP c y (St.of (fs ++ ls z1 z2 z3) (fb ++ bs z1 z2 z3) (ts z1 z2 z3)) Q) : AWP c (.seq x y) st Q :=
  awp_join (ι := α × β × γ) (fun p => St.of (fs ++ ls p.1 p.2.1 p.2.2) (fb ++ bs p.1 p.2.1 p.2.2) (ts p.1 p.2.1 p.2.2)) (fun p => I p.1 p.2.1 p.2.2) (awp_mono h fun e s h => by
    cases e with
    | normal => obtain ⟨z1, z2, z3, h1, h3⟩ := h; exact ⟨⟨z1, z2, z3⟩, h1, h3⟩
    | _ => exact h) fun p hp => k p.1 p.2.1 p.2.2 hp
theorem awp_loop4 {c : Ctx} {st : St} {Q : Exit → St → Prop} {α β γ δ : Type} {fs : List (Nat × V)} {fb : List (Ref × List C)} (ls : α → β → γ → δ → List (Nat × V)) (bs : α → β → γ → δ → List (Ref × List C)) (ts : α → β → γ → δ → List (Nat × (TypeId × Nat))) (I : α → β → γ → δ → Prop) (m : α → β → γ → δ → Nat) (x1 : α) (x2 : β) (x3 : γ) (x4 : δ) {body : Code}
    (h0 : Le c st (St.of (fs ++ ls x1 x2 x3 x4) (fb ++ bs x1 x2 x3 x4) (ts x1 x2 x3 x4))) (hI : I x1 x2 x3 x4) (round : ∀ y1 y2 y3 y4, I y1 y2 y3 y4 → AWP c body (St.of (fs ++ ls y1 y2 y3 y4) (fb ++ bs y1 y2 y3 y4) (ts y1 y2 y3 y4)) (thn (fun s => ∃ z1 z2 z3 z4, I z1 z2 z3 z4 ∧ m z1 z2 z3 z4 < m y1 y2 y3 y4 ∧ Le c s (St.of (fs ++ ls z1 z2 z3 z4) (fb ++ bs z1 z2 z3 z4) (ts z1 z2 z3 z4))) Q)) : AWP c (.loop body) st Q :=
  awp_loop (ι := α × β × γ × δ) (fun p => St.of (fs ++ ls p.1 p.2.1 p.2.2.1 p.2.2.2) (fb ++ bs p.1 p.2.1 p.2.2.1 p.2.2.2) (ts p.1 p.2.1 p.2.2.1 p.2.2.2)) (fun p => I p.1 p.2.1 p.2.2.1 p.2.2.2) (fun p => m p.1 p.2.1 p.2.2.1 p.2.2.2) ⟨x1, x2, x3, x4⟩ h0 hI fun p hp => awp_mono (round p.1 p.2.1 p.2.2.1 p.2.2.2 hp) fun e s h => by
    cases e with
    | normal => obtain ⟨z1, z2, z3, z4, h1, h2, h3⟩ := h; exact ⟨⟨z1, z2, z3, z4⟩, h1, h2, h3⟩
    | _ => exact h
theorem awp_join4 {c : Ctx} {st : St} {Q : Exit → St → Prop} {α β γ δ : Type} {fs : List (Nat × V)} {fb : List (Ref × List C)} (ls : α → β → γ → δ → List (Nat × V)) (bs : α → β → γ → δ → List (Ref × List C)) (ts : α → β → γ → δ → List (Nat × (TypeId × Nat))) (I : α → β → γ → δ → Prop) {x y : Code}
    (h : AWP c x st (thn (fun s => ∃ z1 z2 z3 z4, I z1 z2 z3 z4 ∧ Le c s (St.of (fs ++ ls z1 z2 z3 z4) (fb ++ bs z1 z2 z3 z4) (ts z1 z2 z3 z4))) Q)) (k : ∀ z1 z2 z3 z4, I z1 z2 z3 z4 → AWP c y (St.of (fs ++ ls z1 z2 z3 z4) (fb ++ bs z1 z2 z3 z4) (ts z1 z2 z3 z4)) Q) : AWP c (.seq x y) st Q :=
  awp_join (ι := α × β × γ × δ) (fun p => St.of (fs ++ ls p.1 p.2.1 p.2.2.1 p.2.2.2) (fb ++ bs p.1 p.2.1 p.2.2.1 p.2.2.2) (ts p.1 p.2.1 p.2.2.1 p.2.2.2)) (fun p => I p.1 p.2.1 p.2.2.1 p.2.2.2) (awp_mono h fun e s h => by
    cases e with
    | normal => obtain ⟨z1, z2, z3, z4, h1, h3⟩ := h; exact ⟨⟨z1, z2, z3, z4⟩, h1, h3⟩
    | _ => exact h) fun p hp => k p.1 p.2.1 p.2.2.1 p.2.2.2 hp
theorem awp_loop5 {c : Ctx} {st : St} {Q : Exit → St → Prop} {α β γ δ ε : Type} {fs : List (Nat × V)} {fb : List (Ref × List C)} (ls : α → β → γ → δ → ε → List (Nat × V)) (bs : α → β → γ → δ → ε → List (Ref × List C)) (ts : α → β → γ → δ → ε → List (Nat × (TypeId × Nat))) (I : α → β → γ → δ → ε → Prop) (m : α → β → γ → δ → ε → Nat) (x1 : α) (x2 : β) (x3 : γ) (x4 : δ) (x5 : ε) {body : Code}
    (h0 : Le c st (St.of (fs ++ ls x1 x2 x3 x4 x5) (fb ++ bs x1 x2 x3 x4 x5) (ts x1 x2 x3 x4 x5))) (hI : I x1 x2 x3 x4 x5) (round : ∀ y1 y2 y3 y4 y5, I y1 y2 y3 y4 y5 → AWP c body (St.of (fs ++ ls y1 y2 y3 y4 y5) (fb ++ bs y1 y2 y3 y4 y5) (ts y1 y2 y3 y4 y5)) (thn (fun s => ∃ z1 z2 z3 z4 z5, I z1 z2 z3 z4 z5 ∧ m z1 z2 z3 z4 z5 < m y1 y2 y3 y4 y5 ∧ Le c s (St.of (fs ++ ls z1 z2 z3 z4 z5) (fb ++ bs z1 z2 z3 z4 z5) (ts z1 z2 z3 z4 z5))) Q)) : AWP c (.loop body) st Q :=
  awp_loop (ι := α × β × γ × δ × ε) (fun p => St.of (fs ++ ls p.1 p.2.1 p.2.2.1 p.2.2.2.1 p.2.2.2.2) (fb ++ bs p.1 p.2.1 p.2.2.1 p.2.2.2.1 p.2.2.2.2) (ts p.1 p.2.1 p.2.2.1 p.2.2.2.1 p.2.2.2.2)) (fun p => I p.1 p.2.1 p.2.2.1 p.2.2.2.1 p.2.2.2.2) (fun p => m p.1 p.2.1 p.2.2.1 p.2.2.2.1 p.2.2.2.2) ⟨x1, x2, x3, x4, x5⟩ h0 hI fun p hp => awp_mono (round p.1 p.2.1 p.2.2.1 p.2.2.2.1 p.2.2.2.2 hp) fun e s h => by
    cases e with
    | normal => obtain ⟨z1, z2, z3, z4, z5, h1, h2, h3⟩ := h; exact ⟨⟨z1, z2, z3, z4, z5⟩, h1, h2, h3⟩
    | _ => exact h
theorem awp_join5 {c : Ctx} {st : St} {Q : Exit → St → Prop} {α β γ δ ε : Type} {fs : List (Nat × V)} {fb : List (Ref × List C)} (ls : α → β → γ → δ → ε → List (Nat × V)) (bs : α → β → γ → δ → ε → List (Ref × List C)) (ts : α → β → γ → δ → ε → List (Nat × (TypeId × Nat))) (I : α → β → γ → δ → ε → Prop) {x y : Code}
    (h : AWP c x st (thn (fun s => ∃ z1 z2 z3 z4 z5, I z1 z2 z3 z4 z5 ∧ Le c s (St.of (fs ++ ls z1 z2 z3 z4 z5) (fb ++ bs z1 z2 z3 z4 z5) (ts z1 z2 z3 z4 z5))) Q)) (k : ∀ z1 z2 z3 z4 z5, I z1 z2 z3 z4 z5 → AWP c y (St.of (fs ++ ls z1 z2 z3 z4 z5) (fb ++ bs z1 z2 z3 z4 z5) (ts z1 z2 z3 z4 z5)) Q) : AWP c (.seq x y) st Q :=
  awp_join (ι := α × β × γ × δ × ε) (fun p => St.of (fs ++ ls p.1 p.2.1 p.2.2.1 p.2.2.2.1 p.2.2.2.2) (fb ++ bs p.1 p.2.1 p.2.2.1 p.2.2.2.1 p.2.2.2.2) (ts p.1 p.2.1 p.2.2.1 p.2.2.2.1 p.2.2.2.2)) (fun p => I p.1 p.2.1 p.2.2.1 p.2.2.2.1 p.2.2.2.2) (awp_mono h fun e s h => by
    cases e with
    | normal => obtain ⟨z1, z2, z3, z4, z5, h1, h3⟩ := h; exact ⟨⟨z1, z2, z3, z4, z5⟩, h1, h3⟩
    | _ => exact h) fun p hp => k p.1 p.2.1 p.2.2.1 p.2.2.2.1 p.2.2.2.2 hp
theorem awp_loop6 {c : Ctx} {st : St} {Q : Exit → St → Prop} {α β γ δ ε ζ : Type} {fs : List (Nat × V)} {fb : List (Ref × List C)} (ls : α → β → γ → δ → ε → ζ → List (Nat × V)) (bs : α → β → γ → δ → ε → ζ → List (Ref × List C)) (ts : α → β → γ → δ → ε → ζ → List (Nat × (TypeId × Nat))) (I : α → β → γ → δ → ε → ζ → Prop) (m : α → β → γ → δ → ε → ζ → Nat) (x1 : α) (x2 : β) (x3 : γ) (x4 : δ) (x5 : ε) (x6 : ζ) {body : Code}
    (h0 : Le c st (St.of (fs ++ ls x1 x2 x3 x4 x5 x6) (fb ++ bs x1 x2 x3 x4 x5 x6) (ts x1 x2 x3 x4 x5 x6))) (hI : I x1 x2 x3 x4 x5 x6) (round : ∀ y1 y2 y3 y4 y5 y6, I y1 y2 y3 y4 y5 y6 → AWP c body (St.of (fs ++ ls y1 y2 y3 y4 y5 y6) (fb ++ bs y1 y2 y3 y4 y5 y6) (ts y1 y2 y3 y4 y5 y6)) (thn (fun s => ∃ z1 z2 z3 z4 z5 z6, I z1 z2 z3 z4 z5 z6 ∧ m z1 z2 z3 z4 z5 z6 < m y1 y2 y3 y4 y5 y6 ∧ Le c s (St.of (fs ++ ls z1 z2 z3 z4 z5 z6) (fb ++ bs z1 z2 z3 z4 z5 z6) (ts z1 z2 z3 z4 z5 z6))) Q)) : AWP c (.loop body) st Q :=
  awp_loop (ι := α × β × γ × δ × ε × ζ) (fun p => St.of (fs ++ ls p.1 p.2.1 p.2.2.1 p.2.2.2.1 p.2.2.2.2.1 p.2.2.2.2.2) (fb ++ bs p.1 p.2.1 p.2.2.1 p.2.2.2.1 p.2.2.2.2.1 p.2.2.2.2.2) (ts p.1 p.2.1 p.2.2.1 p.2.2.2.1 p.2.2.2.2.1 p.2.2.2.2.2)) (fun p => I p.1 p.2.1 p.2.2.1 p.2.2.2.1 p.2.2.2.2.1 p.2.2.2.2.2) (fun p => m p.1 p.2.1 p.2.2.1 p.2.2.2.1 p.2.2.2.2.1 p.2.2.2.2.2) ⟨x1, x2, x3, x4, x5, x6⟩ h0 hI fun p hp => awp_mono (round p.1 p.2.1 p.2.2.1 p.2.2.2.1 p.2.2.2.2.1 p.2.2.2.2.2 hp) fun e s h => by
    cases e with
    | normal => obtain ⟨z1, z2, z3, z4, z5, z6, h1, h2, h3⟩ := h; exact ⟨⟨z1, z2, z3, z4, z5, z6⟩, h1, h2, h3⟩
    | _ => exact h
theorem awp_join6 {c : Ctx} {st : St} {Q : Exit → St → Prop} {α β γ δ ε ζ : Type} {fs : List (Nat × V)} {fb : List (Ref × List C)} (ls : α → β → γ → δ → ε → ζ → List (Nat × V)) (bs : α → β → γ → δ → ε → ζ → List (Ref × List C)) (ts : α → β → γ → δ → ε → ζ → List (Nat × (TypeId × Nat))) (I : α → β → γ → δ → ε → ζ → Prop) {x y : Code}
    (h : AWP c x st (thn (fun s => ∃ z1 z2 z3 z4 z5 z6, I z1 z2 z3 z4 z5 z6 ∧ Le c s (St.of (fs ++ ls z1 z2 z3 z4 z5 z6) (fb ++ bs z1 z2 z3 z4 z5 z6) (ts z1 z2 z3 z4 z5 z6))) Q)) (k : ∀ z1 z2 z3 z4 z5 z6, I z1 z2 z3 z4 z5 z6 → AWP c y (St.of (fs ++ ls z1 z2 z3 z4 z5 z6) (fb ++ bs z1 z2 z3 z4 z5 z6) (ts z1 z2 z3 z4 z5 z6)) Q) : AWP c (.seq x y) st Q :=
  awp_join (ι := α × β × γ × δ × ε × ζ) (fun p => St.of (fs ++ ls p.1 p.2.1 p.2.2.1 p.2.2.2.1 p.2.2.2.2.1 p.2.2.2.2.2) (fb ++ bs p.1 p.2.1 p.2.2.1 p.2.2.2.1 p.2.2.2.2.1 p.2.2.2.2.2) (ts p.1 p.2.1 p.2.2.1 p.2.2.2.1 p.2.2.2.2.1 p.2.2.2.2.2)) (fun p => I p.1 p.2.1 p.2.2.1 p.2.2.2.1 p.2.2.2.2.1 p.2.2.2.2.2) (awp_mono h fun e s h => by
    cases e with
    | normal => obtain ⟨z1, z2, z3, z4, z5, z6, h1, h3⟩ := h; exact ⟨⟨z1, z2, z3, z4, z5, z6⟩, h1, h3⟩
    | _ => exact h) fun p hp => k p.1 p.2.1 p.2.2.1 p.2.2.2.1 p.2.2.2.2.1 p.2.2.2.2.2 hp
theorem awp_loop7 {c : Ctx} {st : St} {Q : Exit → St → Prop} {α β γ δ ε ζ η : Type} {fs : List (Nat × V)} {fb : List (Ref × List C)} (ls : α → β → γ → δ → ε → ζ → η → List (Nat × V)) (bs : α → β → γ → δ → ε → ζ → η → List (Ref × List C)) (ts : α → β → γ → δ → ε → ζ → η → List (Nat × (TypeId × Nat))) (I : α → β → γ → δ → ε → ζ → η → Prop) (m : α → β → γ → δ → ε → ζ → η → Nat) (x1 : α) (x2 : β) (x3 : γ) (x4 : δ) (x5 : ε) (x6 : ζ) (x7 : η) {body : Code}
    (h0 : Le c st (St.of (fs ++ ls x1 x2 x3 x4 x5 x6 x7) (fb ++ bs x1 x2 x3 x4 x5 x6 x7) (ts x1 x2 x3 x4 x5 x6 x7))) (hI : I x1 x2 x3 x4 x5 x6 x7) (round : ∀ y1 y2 y3 y4 y5 y6 y7, I y1 y2 y3 y4 y5 y6 y7 → AWP c body (St.of (fs ++ ls y1 y2 y3 y4 y5 y6 y7) (fb ++ bs y1 y2 y3 y4 y5 y6 y7) (ts y1 y2 y3 y4 y5 y6 y7)) (thn (fun s => ∃ z1 z2 z3 z4 z5 z6 z7, I z1 z2 z3 z4 z5 z6 z7 ∧ m z1 z2 z3 z4 z5 z6 z7 < m y1 y2 y3 y4 y5 y6 y7 ∧ Le c s (St.of (fs ++ ls z1 z2 z3 z4 z5 z6 z7) (fb ++ bs z1 z2 z3 z4 z5 z6 z7) (ts z1 z2 z3 z4 z5 z6 z7))) Q)) : AWP c (.loop body) st Q :=
  awp_loop (ι := α × β × γ × δ × ε × ζ × η) (fun p => St.of (fs ++ ls p.1 p.2.1 p.2.2.1 p.2.2.2.1 p.2.2.2.2.1 p.2.2.2.2.2.1 p.2.2.2.2.2.2) (fb ++ bs p.1 p.2.1 p.2.2.1 p.2.2.2.1 p.2.2.2.2.1 p.2.2.2.2.2.1 p.2.2.2.2.2.2) (ts p.1 p.2.1 p.2.2.1 p.2.2.2.1 p.2.2.2.2.1 p.2.2.2.2.2.1 p.2.2.2.2.2.2)) (fun p => I p.1 p.2.1 p.2.2.1 p.2.2.2.1 p.2.2.2.2.1 p.2.2.2.2.2.1 p.2.2.2.2.2.2) (fun p => m p.1 p.2.1 p.2.2.1 p.2.2.2.1 p.2.2.2.2.1 p.2.2.2.2.2.1 p.2.2.2.2.2.2) ⟨x1, x2, x3, x4, x5, x6, x7⟩ h0 hI fun p hp => awp_mono (round p.1 p.2.1 p.2.2.1 p.2.2.2.1 p.2.2.2.2.1 p.2.2.2.2.2.1 p.2.2.2.2.2.2 hp) fun e s h => by
    cases e with
    | normal => obtain ⟨z1, z2, z3, z4, z5, z6, z7, h1, h2, h3⟩ := h; exact ⟨⟨z1, z2, z3, z4, z5, z6, z7⟩, h1, h2, h3⟩
    | _ => exact h
theorem awp_join7 {c : Ctx} {st : St} {Q : Exit → St → Prop} {α β γ δ ε ζ η : Type} {fs : List (Nat × V)} {fb : List (Ref × List C)} (ls : α → β → γ → δ → ε → ζ → η → List (Nat × V)) (bs : α → β → γ → δ → ε → ζ → η → List (Ref × List C)) (ts : α → β → γ → δ → ε → ζ → η → List (Nat × (TypeId × Nat))) (I : α → β → γ → δ → ε → ζ → η → Prop) {x y : Code}
    (h : AWP c x st (thn (fun s => ∃ z1 z2 z3 z4 z5 z6 z7, I z1 z2 z3 z4 z5 z6 z7 ∧ Le c s (St.of (fs ++ ls z1 z2 z3 z4 z5 z6 z7) (fb ++ bs z1 z2 z3 z4 z5 z6 z7) (ts z1 z2 z3 z4 z5 z6 z7))) Q)) (k : ∀ z1 z2 z3 z4 z5 z6 z7, I z1 z2 z3 z4 z5 z6 z7 → AWP c y (St.of (fs ++ ls z1 z2 z3 z4 z5 z6 z7) (fb ++ bs z1 z2 z3 z4 z5 z6 z7) (ts z1 z2 z3 z4 z5 z6 z7)) Q) : AWP c (.seq x y) st Q :=
  awp_join (ι := α × β × γ × δ × ε × ζ × η) (fun p => St.of (fs ++ ls p.1 p.2.1 p.2.2.1 p.2.2.2.1 p.2.2.2.2.1 p.2.2.2.2.2.1 p.2.2.2.2.2.2) (fb ++ bs p.1 p.2.1 p.2.2.1 p.2.2.2.1 p.2.2.2.2.1 p.2.2.2.2.2.1 p.2.2.2.2.2.2) (ts p.1 p.2.1 p.2.2.1 p.2.2.2.1 p.2.2.2.2.1 p.2.2.2.2.2.1 p.2.2.2.2.2.2)) (fun p => I p.1 p.2.1 p.2.2.1 p.2.2.2.1 p.2.2.2.2.1 p.2.2.2.2.2.1 p.2.2.2.2.2.2) (awp_mono h fun e s h => by
    cases e with
    | normal => obtain ⟨z1, z2, z3, z4, z5, z6, z7, h1, h3⟩ := h; exact ⟨⟨z1, z2, z3, z4, z5, z6, z7⟩, h1, h3⟩
    | _ => exact h) fun p hp => k p.1 p.2.1 p.2.2.1 p.2.2.2.1 p.2.2.2.2.1 p.2.2.2.2.2.1 p.2.2.2.2.2.2 hp
theorem awp_loop8 {c : Ctx} {st : St} {Q : Exit → St → Prop} {α β γ δ ε ζ η θ : Type} {fs : List (Nat × V)} {fb : List (Ref × List C)} (ls : α → β → γ → δ → ε → ζ → η → θ → List (Nat × V)) (bs : α → β → γ → δ → ε → ζ → η → θ → List (Ref × List C)) (ts : α → β → γ → δ → ε → ζ → η → θ → List (Nat × (TypeId × Nat))) (I : α → β → γ → δ → ε → ζ → η → θ → Prop) (m : α → β → γ → δ → ε → ζ → η → θ → Nat) (x1 : α) (x2 : β) (x3 : γ) (x4 : δ) (x5 : ε) (x6 : ζ) (x7 : η) (x8 : θ) {body : Code}
    (h0 : Le c st (St.of (fs ++ ls x1 x2 x3 x4 x5 x6 x7 x8) (fb ++ bs x1 x2 x3 x4 x5 x6 x7 x8) (ts x1 x2 x3 x4 x5 x6 x7 x8))) (hI : I x1 x2 x3 x4 x5 x6 x7 x8) (round : ∀ y1 y2 y3 y4 y5 y6 y7 y8, I y1 y2 y3 y4 y5 y6 y7 y8 → AWP c body (St.of (fs ++ ls y1 y2 y3 y4 y5 y6 y7 y8) (fb ++ bs y1 y2 y3 y4 y5 y6 y7 y8) (ts y1 y2 y3 y4 y5 y6 y7 y8)) (thn (fun s => ∃ z1 z2 z3 z4 z5 z6 z7 z8, I z1 z2 z3 z4 z5 z6 z7 z8 ∧ m z1 z2 z3 z4 z5 z6 z7 z8 < m y1 y2 y3 y4 y5 y6 y7 y8 ∧ Le c s (St.of (fs ++ ls z1 z2 z3 z4 z5 z6 z7 z8) (fb ++ bs z1 z2 z3 z4 z5 z6 z7 z8) (ts z1 z2 z3 z4 z5 z6 z7 z8))) Q)) : AWP c (.loop body) st Q :=
  awp_loop (ι := α × β × γ × δ × ε × ζ × η × θ) (fun p => St.of (fs ++ ls p.1 p.2.1 p.2.2.1 p.2.2.2.1 p.2.2.2.2.1 p.2.2.2.2.2.1 p.2.2.2.2.2.2.1 p.2.2.2.2.2.2.2) (fb ++ bs p.1 p.2.1 p.2.2.1 p.2.2.2.1 p.2.2.2.2.1 p.2.2.2.2.2.1 p.2.2.2.2.2.2.1 p.2.2.2.2.2.2.2) (ts p.1 p.2.1 p.2.2.1 p.2.2.2.1 p.2.2.2.2.1 p.2.2.2.2.2.1 p.2.2.2.2.2.2.1 p.2.2.2.2.2.2.2)) (fun p => I p.1 p.2.1 p.2.2.1 p.2.2.2.1 p.2.2.2.2.1 p.2.2.2.2.2.1 p.2.2.2.2.2.2.1 p.2.2.2.2.2.2.2) (fun p => m p.1 p.2.1 p.2.2.1 p.2.2.2.1 p.2.2.2.2.1 p.2.2.2.2.2.1 p.2.2.2.2.2.2.1 p.2.2.2.2.2.2.2) ⟨x1, x2, x3, x4, x5, x6, x7, x8⟩ h0 hI fun p hp => awp_mono (round p.1 p.2.1 p.2.2.1 p.2.2.2.1 p.2.2.2.2.1 p.2.2.2.2.2.1 p.2.2.2.2.2.2.1 p.2.2.2.2.2.2.2 hp) fun e s h => by
    cases e with
    | normal => obtain ⟨z1, z2, z3, z4, z5, z6, z7, z8, h1, h2, h3⟩ := h; exact ⟨⟨z1, z2, z3, z4, z5, z6, z7, z8⟩, h1, h2, h3⟩
    | _ => exact h
theorem awp_join8 {c : Ctx} {st : St} {Q : Exit → St → Prop} {α β γ δ ε ζ η θ : Type} {fs : List (Nat × V)} {fb : List (Ref × List C)} (ls : α → β → γ → δ → ε → ζ → η → θ → List (Nat × V)) (bs : α → β → γ → δ → ε → ζ → η → θ → List (Ref × List C)) (ts : α → β → γ → δ → ε → ζ → η → θ → List (Nat × (TypeId × Nat))) (I : α → β → γ → δ → ε → ζ → η → θ → Prop) {x y : Code}
    (h : AWP c x st (thn (fun s => ∃ z1 z2 z3 z4 z5 z6 z7 z8, I z1 z2 z3 z4 z5 z6 z7 z8 ∧ Le c s (St.of (fs ++ ls z1 z2 z3 z4 z5 z6 z7 z8) (fb ++ bs z1 z2 z3 z4 z5 z6 z7 z8) (ts z1 z2 z3 z4 z5 z6 z7 z8))) Q)) (k : ∀ z1 z2 z3 z4 z5 z6 z7 z8, I z1 z2 z3 z4 z5 z6 z7 z8 → AWP c y (St.of (fs ++ ls z1 z2 z3 z4 z5 z6 z7 z8) (fb ++ bs z1 z2 z3 z4 z5 z6 z7 z8) (ts z1 z2 z3 z4 z5 z6 z7 z8)) Q) : AWP c (.seq x y) st Q :=
  awp_join (ι := α × β × γ × δ × ε × ζ × η × θ) (fun p => St.of (fs ++ ls p.1 p.2.1 p.2.2.1 p.2.2.2.1 p.2.2.2.2.1 p.2.2.2.2.2.1 p.2.2.2.2.2.2.1 p.2.2.2.2.2.2.2) (fb ++ bs p.1 p.2.1 p.2.2.1 p.2.2.2.1 p.2.2.2.2.1 p.2.2.2.2.2.1 p.2.2.2.2.2.2.1 p.2.2.2.2.2.2.2) (ts p.1 p.2.1 p.2.2.1 p.2.2.2.1 p.2.2.2.2.1 p.2.2.2.2.2.1 p.2.2.2.2.2.2.1 p.2.2.2.2.2.2.2)) (fun p => I p.1 p.2.1 p.2.2.1 p.2.2.2.1 p.2.2.2.2.1 p.2.2.2.2.2.1 p.2.2.2.2.2.2.1 p.2.2.2.2.2.2.2) (awp_mono h fun e s h => by
    cases e with
    | normal => obtain ⟨z1, z2, z3, z4, z5, z6, z7, z8, h1, h3⟩ := h; exact ⟨⟨z1, z2, z3, z4, z5, z6, z7, z8⟩, h1, h3⟩
    | _ => exact h) fun p hp => k p.1 p.2.1 p.2.2.1 p.2.2.2.1 p.2.2.2.2.1 p.2.2.2.2.2.1 p.2.2.2.2.2.2.1 p.2.2.2.2.2.2.2 hp
section
variable {c : Ctx} {st : St} {K : St → Prop} {t ty : Nat} {pos : String} {af : Array Edge} {gd : Option (Nat × Bool)}
theorem op_sliceM {α : Type} {f : α → List Dat} {l : List α} {x y : Operand} {tx e n : TypeId} {v : V} {k : IntKind} {i : Int} (hx : Has c st x v) (hv : slD v = some (l.map f)) (hy : Has c st y (.one (.dat (.int k i)))) (hT : slE c.P tx = some (e, n))
    (h0 : 0 ≤ i) (h1 : i ≤ (l.length : Int)) (ht : Nat.blt t c.N = true) (hK : K (st.put t (.one (.dat (.sl ((l.take i.toNat).map f)))))) : AOp c ⟨some t, .slice tx x none (some y) none, ty, pos, af, gd⟩ st K :=
  op_slice_hi hx hv hy hT h0 (by simpa using h1) ht (by rw [← List.map_take]; exact hK)
theorem le_bxeq {r : Ref} {cs cs' : List C} (h : st.bx r = some cs) (e : cs' = cs) : Le c st (st.setB r cs') := by
  subst e
  have : st.setB r cs' = st := by
    cases st with
    | mk sl bx tk =>
      simp only [St.setB, St.mk.injEq, true_and, and_true]
      funext s
      cases hb : Ref.beq s r with
      | true => obtain rfl := (Ref.beq_iff s r).1 hb; exact h.symm
      | false => rfl
  rw [this]
  exact Le.refl c st
theorem map_set' {α : Type} (f : α → List Dat) (l : List α) (i : Nat) (x : α) : (l.map f).set i (f x) = (l.set i x).map f := by
  apply List.ext_getElem?
  intro j
  simp only [List.getElem?_set, List.getElem?_map, List.length_map]
  split
  · split <;> rfl
  · rfl
theorem op_storeRowM {α : Type} [Inhabited α] {f : α → List Dat} {l : List α} {z : α} {x y : Operand} {ts k i off p : Nat} {r : Ref} {us : List C} {v : V} (hx : Has c st x (.one (.ref r off))) (hb : st.bx r = some (bsC (l.map f).flatten p)) (hu : Uni k (l.map f)) (hoff : off = i * k) (hi : i < l.length)
    (hy : Has c st y v) (hv : v.cells = some us) (hd : C.dats us = some (f z)) (hl : (f z).length = k) (hT : shp c.P ts = some (some k) ∨ (shp c.P ts = some none ∧ k = 1))
    (hK : K (st.setB r (bsC ((l.set i z).map f).flatten p))) : AOp c ⟨none, .store ts x y, ty, pos, af, gd⟩ st K :=
  op_storeRow hx hb hu hoff (map_getD hi) hy hv hd hl hT (by rw [map_set']; exact hK)
theorem le_put {v v' : V} (h : st.sl t = some v) (e : v' = v) : Le c st (st.put t v') := fun Φ a w hr => by
  subst e
  have key : ∀ s u, (st.put t v').sl s = some u → RV Φ u (a.tmps.getD s undef) := by
    intro s u hs
    simp only [St.put] at hs
    cases hb : Nat.beq s t with
    | true =>
      obtain rfl := (nbeq_iff s t).1 hb
      rw [hb] at hs
      simp only [cond_true, Option.some.injEq] at hs
      subst hs
      exact hr.slots s v' h
    | false => rw [hb] at hs; exact hr.slots s u hs
  exact ⟨Φ, hr.size, hr.defers, key, hr.boxes, hr.own, hr.inj, hr.toks, hr.tinj, hr.arr, hr.ext, hr.oldA, hr.grow, hr.fr⟩
/-- A row in a box, held by a slot, given away as data. -/
theorem le_freezeS {α : Type} {f : α → List Dat} {l : List α} {u k p cap len : Nat} (hs : st.sl t = some (.one (.bs (.o u) k len cap))) (hb : st.bx (.o u) = some (bsC (l.map f).flatten p)) (hlen : len = l.length) (hu : Uni k (l.map f)) (hk : 0 < k) :
    Le c st (((st.mapC (C.freeze (.o u) (l.map f))).delB (.o u)).put t (.one (.dat (.sl (l.map f))))) := by
  refine (le_freeze hb hu hk).trans (le_put (v := .one (C.freeze (.o u) (l.map f) (.bs (.o u) k len cap))) ?_ ?_)
  · simp only [St.delB, St.mapC, hs, Option.map_some, V.mapC]
  · simp [C.freeze, Ref.beq_self, hlen]
/-- One slot seen as data. -/
theorem le_normS {v : V} (h : st.sl t = some v) : Le c st (st.put t v.norm) := fun Φ a w hr => by
  have key : ∀ s u, (st.put t v.norm).sl s = some u → RV Φ u (a.tmps.getD s undef) := by
    intro s u hs
    simp only [St.put] at hs
    cases hb : Nat.beq s t with
    | true =>
      obtain rfl := (nbeq_iff s t).1 hb
      rw [hb] at hs
      simp only [cond_true, Option.some.injEq] at hs
      subst hs
      exact RV_norm v _ (hr.slots s v h)
    | false => rw [hb] at hs; exact hr.slots s u hs
  exact ⟨Φ, hr.size, hr.defers, key, hr.boxes, hr.own, hr.inj, hr.toks, hr.tinj, hr.arr, hr.ext, hr.oldA, hr.grow, hr.fr⟩
/-- One box seen as data. -/
theorem le_normB {r : Ref} {cs : List C} (h : st.bx r = some cs) (hmb : mapBox cs = false) : Le c st (st.setB r (cs.map C.norm)) := fun Φ a w hr => by
  have back : ∀ s us, (st.setB r (cs.map C.norm)).bx s = some us → ∃ u, st.bx s = some u ∧ (us = u ∨ (u = cs ∧ us = cs.map C.norm)) := by
    intro s us hs
    simp only [St.setB] at hs
    cases hb : Ref.beq s r with
    | true =>
      obtain rfl := (Ref.beq_iff s r).1 hb
      rw [hb] at hs
      simp only [cond_true, Option.some.injEq] at hs
      exact ⟨cs, h, .inr ⟨rfl, hs.symm⟩⟩
    | false => rw [hb] at hs; exact ⟨us, hs, .inl rfl⟩
  refine ⟨Φ, hr.size, hr.defers, hr.slots, ?_, ?_, ?_, hr.toks, hr.tinj, hr.arr, hr.ext, hr.oldA, hr.grow, hr.fr⟩
  · intro s us hs
    obtain ⟨u, h1, h2⟩ := back s us hs
    obtain ⟨o, h3, h4⟩ := hr.boxes s u h1
    rcases h2 with rfl | ⟨rfl, rfl⟩
    · exact ⟨o, h3, h4⟩
    · obtain ⟨vs, e, h5, h6⟩ := h4.cells hmb
      exact ⟨o, h3, .inl ⟨vs, e, h5, All2_mapC (fun x v => RC_norm) h6⟩⟩
  · intro s us hs
    obtain ⟨u, h1, h2⟩ := back s us hs
    exact hr.own s u h1
  · intro s s' us us' hs hs'
    obtain ⟨u, h1, h2⟩ := back s us hs
    obtain ⟨u', h1', h2'⟩ := back s' us' hs'
    exact hr.inj s s' u u' h1 h1'
end
end Go.TQ
