/- In a region that draws its order: a call that leaves every world as it is may be taken first, like a load. -/
import Derived.Test.YtolbecinjajejaaDoorL0
import Derived.Deep.RegionHeld3
set_option linter.unusedVariables false
set_option linter.unusedSimpArgs false
namespace Go.My
open Go
section
variable {P : Program} {ops : Array Oper} {Q : Exit → Act → World → Prop} {md : Region.Mode} {S : World → Prop}

/-- What an operation does to a state: at most its own temporary and the deferred calls change. -/
theorem wpOp_shape {j : Nat} {oj : Oper} (hj : ops[j]? = some oj) {K : Act → World → Prop} {a : Act} {w : World} (h : wpOp P ops Q j K a w) :
    wpOp P ops Q j (fun a' w' => (∃ u ds, a' = ({ a with defers := ds } : Act).put oj.dst u) ∧ K a' w') a w := by
  unfold wpOp at *
  simp only [hj] at *
  by_cases hw : Region.wanted oj (yielded ops a.tmps) = true
  · simp only [hw, if_true] at h ⊢
    refine h.imp (fun h => ?_) id
    unfold Oper.wp at *
    generalize (execOp a.eval oj).run P w = r at *
    match r, h with
    | .ok (.value u) w', h => exact ⟨⟨u, a.defers, rfl⟩, h⟩
    | .ok .skip w', h => exact ⟨⟨undef, a.defers, rfl⟩, h⟩
    | .ok (.defer d) w', h => exact ⟨⟨undef, d :: a.defers, rfl⟩, h⟩
    | .ok (.enter f args) w', h =>
      refine Calls.mono h fun e w'' he => ?_
      match e, he with
      | .returned u, he => exact ⟨⟨u, a.defers, rfl⟩, he⟩
      | .panicked c, he => exact he
      | .outgrown, he => exact he
    | .ok (.row row args) w', h => exact Rows.mono h fun u w'' he => ⟨⟨u, a.defers, rfl⟩, he⟩
    | .halt (.panic u) w', h => exact h
  · simp only [hw, Bool.false_eq_true, if_false] at h ⊢
    exact ⟨⟨undef, a.defers, rfl⟩, h⟩

/-- In state a, in every world that meets S, operation o leaves v in its temporary and the world as it is; it may be a call. -/
def Still (P : Program) (ops : Array Oper) (S : World → Prop) (o : Oper) (v : Value) (a : Act) : Prop :=
  Region.wanted o (yielded ops a.tmps) = true ∧ ∀ w, S w → ((execOp a.eval o).run P w = .ok (.value v) w ∨
    ∃ f args, (execOp a.eval o).run P w = .ok (.enter f args) w ∧ Calls P f args w fun e w' => e = .returned v ∧ w = w')

theorem Still.run {i : Nat} {o : Oper} {v : Value} {a : Act} (hi : ops[i]? = some o) (hy : Still P ops S o v a) {K : Act → World → Prop} {w : World} (hS : S w)
    (h : K (a.put o.dst v) w) : wpOp P ops Q i K a w := by
  obtain ⟨hw, hv⟩ := hy
  unfold wpOp
  simp only [hi, hw, if_true, Oper.wp]
  rcases hv w hS with hr | ⟨f, args, hr, hc⟩
  · rw [hr]; exact .inl h
  · rw [hr]
    refine .inl (hc.mono ?_)
    rintro e w' ⟨rfl, rfl⟩
    exact h

theorem Still.later {o oj : Oper} {v : Value} {a : Act} (hy : Still P ops S o v a) (hap : o.apart ops oj = true) (hs : ∀ cs b, o.op ≠ .select cs b) (u : Value) (ds : List Deferred) :
    Still P ops S o v (({ a with defers := ds } : Act).put oj.dst u) := by
  obtain ⟨_, _, h3⟩ := Oper.apart_spec hap
  unfold Still at *
  rw [execOp_put o hs _ oj.dst u h3, wanted_put o _ oj.dst u h3]
  exact hy

/-- The law. -/
theorem take_still {i : Nat} {o : Oper} {v : Value} (hi : ops[i]? = some o) (hsel : ∀ (j : Nat) (o : Oper) cs b, ops[j]? = some o → o.op ≠ .select cs b)
    (hQ : ∀ c a w, Q (.panic c) (a.put o.dst v) w → Q (.panic c) a w) (fuel : Nat) : ∀ (listed : Array Bool) (a : Act) (w : World),
      (∀ j oj, ops[j]? = some oj → j ≠ i → listed.getD j true = false → (∀ e ∈ oj.after, Region.binds md e = true → e.on ≠ i) → o.apart ops oj = true) →
      i ∈ Region.ready md ops listed → Still P ops S o v a → S w → wpAnyH P md ops Q S fuel (listed.setIfInBounds i true) (a.put o.dst v) w → wpAnyH P md ops Q S (fuel + 1) listed a w := by
  induction fuel with
  | zero =>
    intro listed a w _ hr hy hS H
    refine ⟨fun h => absurd hr (by rw [h]; simp), fun j hj => ?_⟩
    by_cases hji : j = i
    · subst hji
      exact hy.run hi hS ⟨hS, H⟩
    · have h1 := ready_mono hj hji
      rw [H.1] at h1
      cases h1
  | succ n ih =>
    intro listed a w hfree hr hy hS H
    refine ⟨fun h => absurd hr (by rw [h]; simp), fun j hj => ?_⟩
    by_cases hji : j = i
    · subst hji
      exact hy.run hi hS ⟨hS, H⟩
    · obtain ⟨hun, oj, hoj, hall⟩ := mem_ready.1 hj
      have hiun := (mem_ready.1 hr).1
      have hno : ∀ e ∈ oj.after, Region.binds md e = true → e.on ≠ i := by
        intro e he hb heq
        have h1 := hall e he hb
        rw [heq] at h1
        by_cases hlt : i < listed.size
        · simp [hlt] at h1 hiun
          rw [hiun] at h1
          cases h1
        · simp [Array.getElem?_eq_none (Nat.le_of_not_lt hlt)] at h1
      have hap := hfree j oj hoj hji hun hno
      have hF : YieldsIf P ops (fun _ => False) o v a := .inl ⟨hy.1, fun _ h => h.elim⟩
      have h2 := wpOp_shape hoj (wpOp_putIf hoj hap (fun cs b => hsel i o cs b hi) (fun cs b => hsel j oj cs b hoj) hQ hF (H.2 j (ready_mono hj hji)))
      refine wpOp_mono ?_ h2
      rintro a' w' ⟨⟨u, ds, rfl⟩, _, hS', h3⟩
      refine ⟨hS', ih _ _ w' ?_ (ready_mono hr (Ne.symm hji)) (hy.later hap (fun cs b => hsel i o cs b hi) u ds) hS' ?_⟩
      · intro k ok hk hki hkun hkno
        refine hfree k ok hk hki ?_ hkno
        by_cases hjk : j = k
        · subst hjk; exact hun
        · rw [getD_set_ne true hjk] at hkun; exact hkun
      · rw [Array.setIfInBounds_comm _ _ hji]
        exact h3

/-- Number i is taken first; the side conditions are Bools. -/
theorem take_first {i : Nat} {oi : Oper} {v : Value} {fuel : Nat} {listed : Array Bool} {a : Act} {w : World} (hi : ops[i]? = some oi)
    (hs : Region.noSelect ops = true) (hf : Region.free md ops listed i = true) (hr : (Region.ready md ops listed).contains i = true)
    (hQ : ∀ c a w, Q (.panic c) (a.put oi.dst v) w → Q (.panic c) a w) (hy : Still P ops S oi v a) (hS : S w)
    (h : wpAnyH P md ops Q S fuel (listed.setIfInBounds i true) (a.put oi.dst v) w) : wpAnyH P md ops Q S (fuel + 1) listed a w :=
  take_still hi (Region.noSelect_spec hs) hQ fuel listed a w (Region.free_spec hi hf) (by simpa using hr) hy hS h
end
end Go.My
