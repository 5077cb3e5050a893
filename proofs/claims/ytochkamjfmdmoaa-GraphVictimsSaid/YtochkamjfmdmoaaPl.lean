/- Plain facts on pairs: what can be come to, rings, numbers. No program in sight. -/
namespace Go.Proofs.Ytochkamjfmdmoaa

/-- b can be come to from a, over at least one pair -/
inductive Tr (ps : List (Int × Int)) : Int → Int → Prop where
  | one {a b : Int} : (a, b) ∈ ps → Tr ps a b
  | more {a c b : Int} : Tr ps a c → (c, b) ∈ ps → Tr ps a b

theorem Tr.trans {ps : List (Int × Int)} {a b c : Int} (h : Tr ps a b) (k : Tr ps b c) : Tr ps a c := by
  induction k with
  | one h' => exact .more h h'
  | more _ h' ih => exact .more ih h'
theorem Tr.head {ps : List (Int × Int)} {a b c : Int} (h : (a, b) ∈ ps) (k : Tr ps b c) : Tr ps a c := (Tr.one h).trans k
theorem Tr.snd {ps : List (Int × Int)} {a b : Int} (h : Tr ps a b) : ∃ p ∈ ps, p.2 = b := by
  cases h with
  | one h => exact ⟨_, h, rfl⟩
  | more _ h => exact ⟨_, h, rfl⟩
theorem Tr.fst {ps : List (Int × Int)} {a b : Int} (h : Tr ps a b) : ∃ p ∈ ps, p.1 = a := by
  induction h with
  | one h => exact ⟨_, h, rfl⟩
  | more _ _ ih => exact ih
theorem Tr.mono {ps qs : List (Int × Int)} (hs : ∀ p ∈ ps, p ∈ qs) {a b : Int} (h : Tr ps a b) : Tr qs a b := by
  induction h with
  | one h => exact .one (hs _ h)
  | more _ h ih => exact .more ih (hs _ h)
/-- whatever is closed under the pairs holds all that can be come to -/
theorem Tr.closed {ps : List (Int × Int)} {Q : Int → Prop} {a b : Int} (h : Tr ps a b) (h0 : ∀ x, (a, x) ∈ ps → Q x) (hQ : ∀ x y, Q x → (x, y) ∈ ps → Q y) : Q b := by
  induction h with
  | one h => exact h0 _ h
  | more _ h ih => exact hQ _ _ ih h

/-- reflexive -/
def Rt (ps : List (Int × Int)) (a b : Int) : Prop := a = b ∨ Tr ps a b
theorem Rt.refl {ps : List (Int × Int)} (a : Int) : Rt ps a a := .inl rfl
theorem Rt.trans {ps : List (Int × Int)} {a b c : Int} (h : Rt ps a b) (k : Rt ps b c) : Rt ps a c := by
  rcases h with rfl | h
  · exact k
  · rcases k with rfl | k
    · exact .inr h
    · exact .inr (h.trans k)
theorem Rt.step {ps : List (Int × Int)} {a b : Int} (h : (a, b) ∈ ps) : Rt ps a b := .inr (.one h)
theorem Rt.closed {ps : List (Int × Int)} {Q : Int → Prop} {a b : Int} (h : Rt ps a b) (h0 : Q a) (hQ : ∀ x y, Q x → (x, y) ∈ ps → Q y) : Q b := by
  rcases h with rfl | h
  · exact h0
  · exact h.closed (fun x hx => hQ _ _ h0 hx) hQ

/-- is a number one of the pairs? -/
def IsNum (ps : List (Int × Int)) (x : Int) : Prop := ∃ p ∈ ps, p.1 = x ∨ p.2 = x

theorem Tr.isNum {ps : List (Int × Int)} {a b : Int} (h : Tr ps a b) : IsNum ps a := by
  obtain ⟨p, hp, e⟩ := h.fst
  exact ⟨p, hp, .inl e⟩

/-- the rising list without doubles, one more -/
def ins (l : List Int) (n : Int) : List Int := if n ∈ l then l else l.takeWhile (fun x => decide (x < n)) ++ n :: l.dropWhile (fun x => decide (x < n))
def nums : List (Int × Int) → List Int := fun ps => ps.foldl (fun l p => ins (ins l p.1) p.2) []

theorem mem_ins {l : List Int} {n x : Int} : x ∈ ins l n ↔ x ∈ l ∨ x = n := by
  unfold ins
  split
  · rename_i h
    constructor
    · exact .inl
    · rintro (h' | rfl)
      · exact h'
      · exact h
  · have := @List.takeWhile_append_dropWhile _ (fun x => decide (x < n)) l
    rw [List.mem_append, List.mem_cons]
    conv => rhs; rw [← this, List.mem_append]
    constructor
    · rintro (h | h | h)
      · exact .inl (.inl h)
      · exact .inr h
      · exact .inl (.inr h)
    · rintro ((h | h) | h)
      · exact .inl h
      · exact .inr (.inr h)
      · exact .inr (.inl h)

theorem dropWhile_ge : ∀ {l : List Int} {n : Int}, l.Pairwise (· < ·) → ∀ x ∈ l.dropWhile (fun x => decide (x < n)), n ≤ x
  | [], _, _ => by simp
  | a :: r, n, h => by
    rw [List.pairwise_cons] at h
    rw [List.dropWhile_cons]
    split
    · exact dropWhile_ge h.2
    · rename_i ha
      simp only [decide_eq_true_eq, Int.not_lt] at ha
      intro x hx
      rcases List.mem_cons.1 hx with rfl | hx
      · exact ha
      · have := h.1 x hx; omega
theorem takeWhile_lt {l : List Int} {n : Int} : ∀ x ∈ l.takeWhile (fun x => decide (x < n)), x < n := by
  intro x hx
  induction l with
  | nil => simp at hx
  | cons a r ih =>
    rw [List.takeWhile_cons] at hx
    split at hx
    · rename_i ha
      rcases List.mem_cons.1 hx with rfl | hx
      · simpa using ha
      · exact ih hx
    · simp at hx
theorem sorted_ins {l : List Int} {n : Int} (h : l.Pairwise (· < ·)) : (ins l n).Pairwise (· < ·) := by
  unfold ins
  split
  · exact h
  · rename_i hn
    have e := @List.takeWhile_append_dropWhile _ (fun x => decide (x < n)) l
    have h' := h
    rw [← e, List.pairwise_append] at h'
    rw [List.pairwise_append, List.pairwise_cons]
    refine ⟨h'.1, ⟨fun x hx => ?_, h'.2.1⟩, fun a ha b hb => ?_⟩
    · have h1 := dropWhile_ge h x hx
      have h2 : x ∈ l := (List.dropWhile_sublist _).subset hx
      have : x ≠ n := fun e => hn (e ▸ h2)
      omega
    · rcases List.mem_cons.1 hb with rfl | hb
      · exact takeWhile_lt a ha
      · exact h'.2.2 a ha b hb
theorem nums_aux : ∀ (ps : List (Int × Int)) (l : List Int), l.Pairwise (· < ·) → (ps.foldl (fun l p => ins (ins l p.1) p.2) l).Pairwise (· < ·) ∧ ∀ x, x ∈ ps.foldl (fun l p => ins (ins l p.1) p.2) l ↔ x ∈ l ∨ IsNum ps x
  | [], l, h => ⟨h, fun x => by simp [IsNum]⟩
  | p :: r, l, h => by
    have ih := nums_aux r (ins (ins l p.1) p.2) (sorted_ins (sorted_ins h))
    refine ⟨ih.1, fun x => ?_⟩
    rw [List.foldl_cons, ih.2, mem_ins, mem_ins]
    unfold IsNum
    simp only [List.mem_cons, exists_eq_or_imp, eq_comm (b := x)]
    constructor
    · rintro (((h | h) | h) | h)
      · exact .inl h
      · exact .inr (.inl (.inl h))
      · exact .inr (.inl (.inr h))
      · exact .inr (.inr h)
    · rintro (h | (h | h) | h)
      · exact .inl (.inl (.inl h))
      · exact .inl (.inl (.inr h))
      · exact .inl (.inr h)
      · exact .inr h
theorem nums_sorted (ps : List (Int × Int)) : (nums ps).Pairwise (· < ·) := (nums_aux ps [] .nil).1
theorem mem_nums {ps : List (Int × Int)} {x : Int} : x ∈ nums ps ↔ IsNum ps x := by
  have := (nums_aux ps [] .nil).2 x
  unfold nums
  simpa using this
theorem length_ins (l : List Int) (n : Int) : (ins l n).length ≤ l.length + 1 := by
  unfold ins
  split
  · omega
  · have := congrArg List.length (@List.takeWhile_append_dropWhile _ (fun x => decide (x < n)) l)
    simp only [List.length_append, List.length_cons] at this ⊢
    omega
theorem length_nums_aux : ∀ (ps : List (Int × Int)) (l : List Int), (ps.foldl (fun l p => ins (ins l p.1) p.2) l).length ≤ l.length + 2 * ps.length
  | [], l => by simp
  | p :: r, l => by
    have ih := length_nums_aux r (ins (ins l p.1) p.2)
    have h1 := length_ins l p.1
    have h2 := length_ins (ins l p.1) p.2
    simp only [List.foldl_cons, List.length_cons]
    omega
theorem length_nums (ps : List (Int × Int)) : (nums ps).length ≤ 2 * ps.length := by
  have := length_nums_aux ps []
  simpa [nums] using this

/-- a set of different numbers, each of a list, is no longer than the list -/
theorem nodup_length_le : ∀ {l m : List Int}, l.Nodup → (∀ x ∈ l, x ∈ m) → l.length ≤ m.length
  | [], _, _, _ => by simp
  | a :: r, m, h, hs => by
    rw [List.nodup_cons] at h
    have ha : a ∈ m := hs a (by simp)
    have := nodup_length_le (l := r) (m := m.erase a) h.2 (fun x hx => by
      have hne : x ≠ a := fun e => h.1 (e ▸ hx)
      exact (List.mem_erase_of_ne hne).2 (hs x (by simp [hx])))
    rw [List.length_erase_of_mem ha] at this
    have hp : 0 < m.length := List.length_pos_of_mem ha
    simp only [List.length_cons]
    omega


/-! ### rings, the victim, the order -/
noncomputable def ringB (ps : List (Int × Int)) (n : Int) : Bool := @decide (Tr ps n n) (Classical.propDecidable _)
theorem ringB_iff {ps : List (Int × Int)} {n : Int} : ringB ps n = true ↔ Tr ps n n := by
  unfold ringB
  exact @decide_eq_true_iff (Tr ps n n) (Classical.propDecidable _)
theorem ringB_false {ps : List (Int × Int)} {n : Int} : ringB ps n = false ↔ ¬ Tr ps n n := by
  rw [← ringB_iff]; simp

noncomputable def victimOf (ps : List (Int × Int)) : Int × Bool :=
  match (nums ps).reverse.find? (ringB ps) with
  | some n => (n, true)
  | none => (0, false)

/-- what a victim is -/
def IsVictim (ps : List (Int × Int)) (n : Int) (is : Bool) : Prop :=
  (is = true → Tr ps n n ∧ ∀ x, Tr ps x x → x ≤ n) ∧ (is = false → n = 0 ∧ ∀ x, ¬ Tr ps x x)
theorem IsVictim.unique {ps : List (Int × Int)} {n m : Int} {a b : Bool} (h : IsVictim ps n a) (k : IsVictim ps m b) : n = m ∧ a = b := by
  cases a <;> cases b
  · exact ⟨(h.2 rfl).1.trans (k.2 rfl).1.symm, rfl⟩
  · exact absurd (k.1 rfl).1 ((h.2 rfl).2 m)
  · exact absurd (h.1 rfl).1 ((k.2 rfl).2 n)
  · have h1 := (h.1 rfl).2 m (k.1 rfl).1
    have h2 := (k.1 rfl).2 n (h.1 rfl).1
    exact ⟨by omega, rfl⟩

def readyB (ps : List (Int × Int)) (done : List Int) (n : Int) : Bool := ps.all fun p => !(p.1 == n && !decide (p.2 ∈ done))
theorem readyB_iff {ps : List (Int × Int)} {done : List Int} {n : Int} : readyB ps done n = true ↔ ∀ y, (n, y) ∈ ps → y ∈ done := by
  unfold readyB
  rw [List.all_eq_true]
  constructor
  · intro h y hy
    have := h _ hy
    simpa using this
  · intro h p hp
    by_cases e : p.1 = n
    · have := h p.2 (e ▸ hp)
      simp [this]
    · simp [e]

/-- the least number that could come next -/
def pick (ps : List (Int × Int)) (done : List Int) : Option Int := (nums ps).find? fun x => !decide (x ∈ done) && readyB ps done x
def greedy (ps : List (Int × Int)) : Nat → List Int → List Int
  | 0, done => done
  | k + 1, done => match pick ps done with
    | some x => greedy ps k (done ++ [x])
    | none => done
def orderOf (ps : List (Int × Int)) : List Int := greedy ps (nums ps).length []

theorem pick_some {ps : List (Int × Int)} {done : List Int} {x : Int} (h : pick ps done = some x) : x ∈ nums ps ∧ x ∉ done ∧ readyB ps done x = true := by
  unfold pick at h
  have h1 := List.mem_of_find?_eq_some h
  have h2 := List.find?_some h
  simp only [Bool.and_eq_true, Bool.not_eq_true', decide_eq_false_iff_not] at h2
  exact ⟨h1, h2.1, h2.2⟩
/-- the least of those that could come next is what is picked -/
theorem pick_eq {ps : List (Int × Int)} {done : List Int} {x : Int} (h1 : x ∈ nums ps) (h2 : x ∉ done) (h3 : readyB ps done x = true) (h4 : ∀ y ∈ nums ps, y ∉ done → readyB ps done y = true → x ≤ y) : pick ps done = some x := by
  unfold pick
  rw [List.find?_eq_some_iff_append]
  refine ⟨by simp [h2, h3], ?_⟩
  obtain ⟨a, b, e⟩ := List.append_of_mem h1
  refine ⟨a, b, e, fun y hy => ?_⟩
  have hs := nums_sorted ps
  rw [e, List.pairwise_append] at hs
  have hlt := hs.2.2 y hy x (by simp)
  cases hd : (!decide (y ∈ done) && readyB ps done y) with
  | false => rfl
  | true =>
    simp only [Bool.and_eq_true, Bool.not_eq_true', decide_eq_false_iff_not] at hd
    have := h4 y (by rw [e]; simp [hy]) hd.1 hd.2
    omega

/-- whoever always can go on, in a finite set, comes round -/
theorem ring_of_chain {ps : List (Int × Int)} {S : List Int} {x : Int} (hx : x ∈ S) (h : ∀ a ∈ S, ∃ b ∈ S, (a, b) ∈ ps) : ∃ a, Tr ps a a := by
  let nx : {a : Int // a ∈ S} → {a : Int // a ∈ S} := fun a => ⟨Classical.choose (h a.1 a.2), (Classical.choose_spec (h a.1 a.2)).1⟩
  have hnx : ∀ a, (a.1, (nx a).1) ∈ ps := fun a => (Classical.choose_spec (h a.1 a.2)).2
  let f : Nat → {a : Int // a ∈ S} := fun n => Nat.rec ⟨x, hx⟩ (fun _ a => nx a) n
  have hf : ∀ n, ((f n).1, (f (n + 1)).1) ∈ ps := fun n => hnx (f n)
  have htr : ∀ k n, Tr ps (f n).1 (f (n + k + 1)).1 := by
    intro k
    induction k with
    | zero => intro n; exact .one (hf n)
    | succ k ih => intro n; exact .more (ih n) (hf (n + k + 1))
  have : ∃ i j, i < j ∧ (f i).1 = (f j).1 := by
    refine Classical.byContradiction fun hno => ?_
    have hnd : ((List.range (S.length + 1)).map (fun i => (f i).1)).Nodup := by
      unfold List.Nodup
      rw [List.pairwise_map]
      refine List.Pairwise.imp ?_ (List.pairwise_lt_range)
      intro a b hab e
      exact hno ⟨a, b, hab, e⟩
    have := nodup_length_le hnd (m := S) (fun y hy => by
      obtain ⟨i, _, rfl⟩ := List.mem_map.1 hy
      exact (f i).2)
    simp at this
    omega
  obtain ⟨i, j, hij, e⟩ := this
  have := htr (j - i - 1) i
  rw [show i + (j - i - 1) + 1 = j from by omega, ← e] at this
  exact ⟨_, this⟩

theorem pick_exists {ps : List (Int × Int)} {done : List Int} (hac : ∀ x, ¬ Tr ps x x) (hne : ∃ x ∈ nums ps, x ∉ done) : ∃ x, pick ps done = some x := by
  cases h : pick ps done with
  | some x => exact ⟨x, rfl⟩
  | none =>
    exfalso
    unfold pick at h
    rw [List.find?_eq_none] at h
    obtain ⟨x, hx, hxd⟩ := hne
    have := ring_of_chain (ps := ps) (S := (nums ps).filter (fun y => !decide (y ∈ done))) (x := x) (List.mem_filter.2 ⟨hx, by simp [hxd]⟩) (by
      intro a ha
      obtain ⟨h1, h2⟩ := List.mem_filter.1 ha
      have h2' : a ∉ done := by simpa using h2
      have h3 := h a h1
      have h3' : ¬ readyB ps done a = true := fun e => h3 (by simp [h2', e])
      rw [readyB_iff] at h3'
      obtain ⟨y, hy⟩ := Classical.not_forall.1 h3'
      obtain ⟨hy1, hy2⟩ := Classical.not_imp.1 hy
      exact ⟨y, List.mem_filter.2 ⟨mem_nums.2 ⟨_, hy1, .inr rfl⟩, by simp [hy2]⟩, hy1⟩)
    obtain ⟨a, ha⟩ := this
    exact hac a ha

/-- what has come out so far -/
structure GInv (ps : List (Int × Int)) (done : List Int) : Prop where
  nodup : done.Nodup
  sub : ∀ x ∈ done, x ∈ nums ps
  steps : ∀ i x, done[i]? = some x → pick ps (done.take i) = some x
theorem GInv.nil (ps : List (Int × Int)) : GInv ps [] := ⟨by simp, by simp, by simp⟩
theorem GInv.put {ps : List (Int × Int)} {done : List Int} {x : Int} (h : GInv ps done) (hx : pick ps done = some x) : GInv ps (done ++ [x]) := by
  obtain ⟨h1, h2, _⟩ := pick_some hx
  refine ⟨List.nodup_append.2 ⟨h.nodup, by simp, by simp; intro a ha e; exact h2 (e ▸ ha)⟩, ?_, ?_⟩
  · intro y hy
    rcases List.mem_append.1 hy with hy | hy
    · exact h.sub y hy
    · simp at hy; subst hy; exact h1
  · intro i y hy
    by_cases hi : i < done.length
    · rw [List.getElem?_append_left hi] at hy
      rw [List.take_append_of_le_length (by omega)]
      exact h.steps i y hy
    · have : i = done.length := by
        have := (List.getElem?_eq_some_iff.1 hy).1
        simp at this; omega
      subst this
      simp at hy
      subst hy
      simpa using hx
theorem GInv.len {ps : List (Int × Int)} {done : List Int} (h : GInv ps done) : done.length ≤ (nums ps).length := nodup_length_le h.nodup h.sub
theorem GInv.missing {ps : List (Int × Int)} {done : List Int} (_h : GInv ps done) (hl : done.length < (nums ps).length) : ∃ x ∈ nums ps, x ∉ done := by
  refine Classical.byContradiction fun hno => ?_
  have hn : (nums ps).Nodup := (nums_sorted ps).imp (fun h e => by subst e; omega)
  have := nodup_length_le hn (m := done) (fun x hx => Classical.byContradiction fun hd => hno ⟨x, hx, hd⟩)
  omega
theorem GInv.unique {ps : List (Int × Int)} {a b : List Int} (ha : GInv ps a) (hb : GInv ps b) (hl : a.length = b.length) : a = b := by
  have key : ∀ n, n ≤ a.length → a.take n = b.take n := by
    intro n
    induction n with
    | zero => intro _; simp
    | succ n ih =>
      intro hn
      have e := ih (by omega)
      have h1 := ha.steps n _ (List.getElem?_eq_getElem (by omega : n < a.length))
      have h2 := hb.steps n _ (List.getElem?_eq_getElem (by omega : n < b.length))
      rw [e] at h1
      rw [List.take_succ_eq_append_getElem (by omega : n < a.length), List.take_succ_eq_append_getElem (by omega : n < b.length), e]
      rw [Option.some.inj (h1.symm.trans h2)]
  have := key a.length (Nat.le_refl _)
  rw [List.take_length, hl, List.take_length] at this
  exact this
/-- nobody stands ahead of whom he waits for -/
theorem GInv.right {ps : List (Int × Int)} {done : List Int} (h : GInv ps done) {a b : Int} (hp : (a, b) ∈ ps) {i j : Nat} (hi : done[i]? = some a) (hj : done[j]? = some b) : j < i := by
  have h1 := (pick_some (h.steps i a hi)).2.2
  rw [readyB_iff] at h1
  have h2 := h1 b hp
  rw [List.mem_take_iff_getElem] at h2
  obtain ⟨k, hk, e⟩ := h2
  have hk' : done[k]? = some b := by rw [List.getElem?_eq_getElem (by omega), e]
  have := (List.getElem?_inj (by omega) h.nodup).1 (hk'.trans hj.symm)
  omega

end Go.Proofs.Ytochkamjfmdmoaa
