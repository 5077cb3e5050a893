/- A heap in a list, in plain words. No program in sight. -/
namespace Go.Proofs.Ytochkamjfmdmoaa

/-- the number at a place -/
def el (l : List Int) (i : Nat) : Int := l.getD i 0
def swp (l : List Int) (i j : Nat) : List Int := (l.set i (el l j)).set j (el l i)

theorem el_eq {l : List Int} {i : Nat} (h : i < l.length) : el l i = l[i] := by simp [el, h]
theorem el_some {l : List Int} {i : Nat} (h : i < l.length) : l[i]? = some (el l i) := by rw [List.getElem?_eq_getElem h, el_eq h]
theorem length_swp (l : List Int) (i j : Nat) : (swp l i j).length = l.length := by simp [swp]
theorem el_swp {l : List Int} {i j : Nat} (hi : i < l.length) (hj : j < l.length) (k : Nat) : el (swp l i j) k = if k = j then el l i else if k = i then el l j else el l k := by
  unfold swp el
  simp only [List.getD_eq_getElem?_getD, List.getElem?_set, List.length_set]
  by_cases h1 : j = k
  · subst h1
    simp [hj]
  · rw [if_neg h1, if_neg (Ne.symm h1)]
    by_cases h2 : i = k
    · subst h2
      simp [hi]
    · rw [if_neg h2, if_neg (Ne.symm h2)]
theorem perm_swp {l : List Int} {i j : Nat} (hi : i < l.length) (hj : j < l.length) : (swp l i j).Perm l := by
  have h := Array.swap_perm (xs := l.toArray) (i := i) (j := j) (by simpa using hi) (by simpa using hj)
  have h2 := h.toList
  have e : (l.toArray.swap i j (by simpa using hi) (by simpa using hj)).toList = swp l i j := by
    simp [Array.swap, swp, el_eq hi, el_eq hj]
  rw [e] at h2
  simpa using h2

/-- from place i on each parent is no greater than its children, among the first n -/
def HeapFrom (l : List Int) (n i : Nat) : Prop := ∀ j, 0 < j → j < n → i ≤ (j - 1) / 2 → el l ((j - 1) / 2) ≤ el l j

/-- .. but for the children of place k, which are no less than k's parent -/
structure DownInv (l : List Int) (n i k : Nat) : Prop where
  ik : i ≤ k
  ok : ∀ j, 0 < j → j < n → i ≤ (j - 1) / 2 → (j - 1) / 2 ≠ k → el l ((j - 1) / 2) ≤ el l j
  gp : ∀ j, 0 < j → j < n → (j - 1) / 2 = k → 0 < k → i ≤ (k - 1) / 2 → el l ((k - 1) / 2) ≤ el l j

theorem DownInv.start {l : List Int} {n i : Nat} (h : HeapFrom l n (i + 1)) : DownInv l n i i :=
  ⟨Nat.le_refl _, fun j h0 hj hi hne => h j h0 hj (by omega), fun j _ _ _ h0 hi => by omega⟩

theorem DownInv.done {l : List Int} {n i k : Nat} (h : DownInv l n i k) (hc : ∀ j, 0 < j → j < n → (j - 1) / 2 = k → el l k ≤ el l j) : HeapFrom l n i := by
  intro j h0 hj hi
  by_cases e : (j - 1) / 2 = k
  · rw [e]; exact hc j h0 hj e
  · exact h.ok j h0 hj hi e

/-- the step: k's least child c changes places with k -/
theorem DownInv.step {l : List Int} {n i k c : Nat} (h : DownInv l n i k) (hn : n ≤ l.length) (hc : c < n) (hc0 : 0 < c) (hck : (c - 1) / 2 = k) (hlt : el l c ≤ el l k) (hleast : ∀ j, 0 < j → j < n → (j - 1) / 2 = k → el l c ≤ el l j) :
    DownInv (swp l k c) n i c := by
  have hkc : k < c := by omega
  have hk : k < l.length := by omega
  have hcl : c < l.length := by omega
  refine ⟨by have := h.ik; omega, ?_, ?_⟩
  · intro j h0 hj hi hne
    rw [el_swp hk hcl, el_swp hk hcl]
    by_cases e1 : (j - 1) / 2 = k
    · -- the children of k: k now holds the least
      rw [if_neg (by omega), if_pos e1]
      by_cases e2 : j = c
      · rw [if_pos e2]; exact hlt
      · rw [if_neg e2, if_neg (by omega)]
        exact hleast j h0 hj e1
    · rw [if_neg hne, if_neg e1]
      by_cases e2 : j = c
      · omega
      · rw [if_neg e2]
        by_cases e3 : j = k
        · -- k's parent: the grandparent of c
          subst e3
          rw [if_pos rfl]
          exact h.gp c hc0 hc hck (by omega) hi
        · rw [if_neg e3]
          exact h.ok j h0 hj hi e1
  · intro j h0 hj e _ _
    rw [hck, el_swp hk hcl, el_swp hk hcl, if_neg (by omega), if_pos rfl, if_neg (by omega), if_neg (by omega)]
    have := h.ok j h0 hj (by have := h.ik; omega) (by omega)
    rw [e] at this
    exact this

/-- every parent is no greater than its children, but for place k, whose children are no less than k's parent -/
structure UpInv (l : List Int) (n k : Nat) : Prop where
  ok : ∀ j, 0 < j → j < n → j ≠ k → el l ((j - 1) / 2) ≤ el l j
  gp : ∀ j, 0 < j → j < n → (j - 1) / 2 = k → 0 < k → el l ((k - 1) / 2) ≤ el l j

theorem UpInv.done {l : List Int} {n k : Nat} (h : UpInv l n k) (hk : 0 < k → k < n → el l ((k - 1) / 2) ≤ el l k) : HeapFrom l n 0 := by
  intro j h0 hj _
  by_cases e : j = k
  · subst e; exact hk h0 hj
  · exact h.ok j h0 hj e
theorem UpInv.step {l : List Int} {n k : Nat} (h : UpInv l n k) (hn : n ≤ l.length) (hk : k < n) (hk0 : 0 < k) (hlt : el l k ≤ el l ((k - 1) / 2)) : UpInv (swp l ((k - 1) / 2) k) n ((k - 1) / 2) := by
  have hp : (k - 1) / 2 < k := by omega
  have hkl : k < l.length := by omega
  have hpl : (k - 1) / 2 < l.length := by omega
  refine ⟨?_, ?_⟩
  · intro j h0 hj hne
    rw [el_swp hpl hkl, el_swp hpl hkl]
    by_cases e1 : j = k
    · subst e1
      rw [if_neg (by omega), if_pos rfl, if_pos rfl]
      exact hlt
    · rw [if_neg e1, if_neg hne]
      by_cases e2 : (j - 1) / 2 = k
      · rw [if_pos e2]
        exact h.gp j h0 hj e2 hk0
      · rw [if_neg e2]
        by_cases e3 : (j - 1) / 2 = (k - 1) / 2
        · rw [if_pos e3]
          have := h.ok j h0 hj e1
          rw [e3] at this
          omega
        · rw [if_neg e3]
          exact h.ok j h0 hj e1
  · intro j h0 hj e hpos
    rw [el_swp hpl hkl, el_swp hpl hkl]
    have e1 : ((k - 1) / 2 - 1) / 2 ≠ k := by omega
    have e2 : ((k - 1) / 2 - 1) / 2 ≠ (k - 1) / 2 := by omega
    rw [if_neg e1, if_neg e2]
    have h1 := h.ok ((k - 1) / 2) hpos (by omega) (by omega)
    by_cases e3 : j = k
    · subst e3; rw [if_pos rfl]; exact h1
    · rw [if_neg e3, if_neg (by omega)]
      have := h.ok j h0 hj e3
      rw [e] at this
      omega

/-- the first is the least -/
theorem HeapFrom.least {l : List Int} (h : HeapFrom l l.length 0) : ∀ i, i < l.length → el l 0 ≤ el l i := by
  intro i
  induction i using Nat.strongRecOn with
  | _ i ih =>
    intro hi
    by_cases h0 : i = 0
    · subst h0; exact Int.le_refl _
    · have h1 := ih ((i - 1) / 2) (by omega) (by omega)
      have h2 := h i (by omega) hi (Nat.zero_le _)
      omega
theorem HeapFrom.mono {l : List Int} {n m i : Nat} (h : HeapFrom l n i) (hm : m ≤ n) : HeapFrom l m i := fun j h0 hj hi => h j h0 (by omega) hi
theorem HeapFrom.top (l : List Int) (n i : Nat) (h : n ≤ 2 * i + 1) : HeapFrom l n i := fun j h0 hj hi => by omega

theorem el_take {l : List Int} {n i : Nat} (h : i < n) : el (l.take n) i = el l i := by
  unfold el
  simp [List.getD_eq_getElem?_getD, h]
theorem el_append_left {l m : List Int} {i : Nat} (h : i < l.length) : el (l ++ m) i = el l i := by
  unfold el
  simp [List.getD_eq_getElem?_getD, List.getElem?_append_left h]
theorem HeapFrom.take {l : List Int} {n i : Nat} (h : HeapFrom l n i) : HeapFrom (l.take n) n i := by
  intro j h0 hj hi
  rw [el_take (by omega), el_take hj]
  exact h j h0 hj hi

/-- behind a push: the last one alone may stand wrong -/
theorem UpInv.start {l : List Int} {x : Int} (h : HeapFrom l l.length 0) : UpInv (l ++ [x]) (l.length + 1) l.length := by
  refine ⟨fun j h0 hj hne => ?_, fun j h0 hj e _ => by omega⟩
  rw [el_append_left (by omega), el_append_left (by omega)]
  exact h j h0 (by omega) (Nat.zero_le _)

/-- behind the exchange of the first and the last: the heap from 1 on, but for the last -/
theorem HeapFrom.afterSwap {l : List Int} {n : Nat} (h : HeapFrom l (n + 1) 0) (hn : n + 1 = l.length) : HeapFrom (swp l 0 n) n 1 := by
  intro j h0 hj hi
  have h1 : (0 : Nat) < l.length := by omega
  rw [el_swp h1 (by omega), el_swp h1 (by omega), if_neg (by omega), if_neg (by omega), if_neg (by omega), if_neg (by omega)]
  exact h j h0 (by omega) (Nat.zero_le _)

end Go.Proofs.Ytochkamjfmdmoaa
