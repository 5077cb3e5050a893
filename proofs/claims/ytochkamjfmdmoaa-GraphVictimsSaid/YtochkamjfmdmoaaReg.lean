/- A region that draws its order, by an invariant over what has come up. No program in sight. -/
import Derived.WalkKit
namespace Go.Proofs.Ytochkamjfmdmoaa

def unlisted (L : Array Bool) : Nat := (L.toList.filter (fun b => !b)).length

theorem unlisted_set {L : Array Bool} {i : Nat} (h : L.getD i true = false) : unlisted (L.setIfInBounds i true) + 1 = unlisted L := by
  have hi : i < L.size := by
    rcases Nat.lt_or_ge i L.size with h' | h'
    · exact h'
    · simp [Array.getD, Nat.not_lt.2 h'] at h
  have hLi : L.toList[i]? = some false := by
    rw [Array.getElem?_toList, Array.getElem?_eq_getElem hi]
    simpa [Array.getD, hi] using h
  unfold unlisted
  rw [Array.toList_setIfInBounds]
  generalize L.toList = l at *
  have hi' : i < l.length := (List.getElem?_eq_some_iff.1 hLi).1
  clear h hi
  induction l generalizing i with
  | nil => simp at hi'
  | cons a r ih =>
    cases i with
    | zero => simp at hLi; subst hLi; simp
    | succ i =>
      have := ih (i := i) (by simpa using hLi) (by simpa using hi')
      cases a <;> simp at this ⊢ <;> omega

theorem ready_spec {ops : Array Oper} {L : Array Bool} {i : Nat} (h : i ∈ Region.ready .any ops L) :
    L.getD i true = false ∧ ∃ o, ops[i]? = some o ∧ ∀ e ∈ o.after, Region.binds .any e = true → L.getD e.on false = true := by
  unfold Region.ready at h
  rw [List.mem_filter] at h
  obtain ⟨h1, h2⟩ := h
  have hi : i < ops.size := by simpa using h1
  simp only [Bool.and_eq_true, Bool.not_eq_true', Array.getElem?_eq_getElem hi, Option.map_some, Option.getD_some, Array.all_eq_true_iff_forall_mem, Bool.or_eq_true] at h2
  refine ⟨h2.1, _, Array.getElem?_eq_getElem hi, fun e he hb => ?_⟩
  rcases h2.2 e he with h3 | h3
  · rw [hb] at h3; cases h3
  · exact h3

theorem all_listed {ops : Array Oper} {L : Array Bool} (hd : ∀ (i : Nat) (o : Oper), ops[i]? = some o → ∀ e ∈ o.after, Region.binds .any e = true → e.on < i) (h : Region.ready .any ops L = []) : ∀ i, i < ops.size → L.getD i true = true := by
  intro i
  induction i using Nat.strongRecOn with
  | _ i ih =>
    intro hi
    cases hL : L.getD i true with
    | true => rfl
    | false =>
      exfalso
      have : i ∈ Region.ready .any ops L := by
        unfold Region.ready
        rw [List.mem_filter]
        refine ⟨by simpa using hi, ?_⟩
        simp only [hL, Array.getElem?_eq_getElem hi, Option.map_some, Option.getD_some, Bool.not_false, Bool.true_and, Array.all_eq_true_iff_forall_mem, Bool.or_eq_true]
        intro e he
        by_cases hbe : Region.binds .any e = true
        case neg => left; simpa using hbe
        right
        have hlt := hd i _ (Array.getElem?_eq_getElem hi) e he hbe
        have := ih e.on hlt (by omega)
        have hs : e.on < L.size := by
          rcases Nat.lt_or_ge e.on L.size with h' | h'
          · exact h'
          · exfalso
            have hi2 : i < L.size := by
              rcases Nat.lt_or_ge i L.size with h'' | h''
              · exact h''
              · simp [Array.getD, Nat.not_lt.2 h''] at hL
            omega
        simpa [Array.getD, hs] using this
      rw [h] at this
      cases this

/-- whatever order the tape picks -/
theorem wp_region_inv {P : Program} {ops : Array Oper} {Q : Exit → Act → World → Prop} {id : Nat} {a : Act} {w : World} (hm : P.follows .mixedOrders = true) (hd : ∀ (i : Nat) (o : Oper), ops[i]? = some o → ∀ e ∈ o.after, Region.binds .any e = true → e.on < i)
    (I : Array Bool → Act → World → Prop) (h0 : I (Array.replicate ops.size false) a w.drew)
    (hstep : ∀ (L : Array Bool) (a : Act) (w : World) (i : Nat) (o : Oper), I L a w → L.getD i true = false → ops[i]? = some o → (∀ e ∈ o.after, Region.binds .any e = true → L.getD e.on false = true) → wpOp P ops Q i (fun a' w' => I (L.setIfInBounds i true) a' w') a w)
    (hend : ∀ L a w, I L a w → (∀ i, i < ops.size → L.getD i true = true) → Q .normal a w) : (Code.region id ops true).wp P Q a w := by
  refine wp_region_any hm ?_
  have key : ∀ fuel L a w, unlisted L ≤ fuel → I L a w → wpAny P .any ops Q fuel L a w := by
    intro fuel
    induction fuel with
    | zero =>
      intro L a w hu hI
      have hr : Region.ready .any ops L = [] := by
        rw [List.eq_nil_iff_forall_not_mem]
        intro i hi
        have := unlisted_set (ready_spec hi).1
        omega
      exact ⟨hr, hend L a w hI (all_listed hd hr)⟩
    | succ fuel ih =>
      intro L a w hu hI
      refine ⟨fun hr => hend L a w hI (all_listed hd hr), fun i hi => ?_⟩
      obtain ⟨h1, o, h2, h3⟩ := ready_spec hi
      have h4 := unlisted_set h1
      exact wpOp_mono (fun a' w' hI' => ih _ a' w' (by omega) hI') (hstep L a w i o hI h1 h2 h3)
  refine key _ _ _ _ ?_ h0
  unfold unlisted
  simp

end Go.Proofs.Ytochkamjfmdmoaa
