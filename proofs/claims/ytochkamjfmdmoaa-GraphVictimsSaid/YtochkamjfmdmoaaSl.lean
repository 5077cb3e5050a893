/- General words for the walks: slices of ints and of pairs of ints, as lists. No program in sight. -/
import Derived.Test.YtochkamjfmdmoaaLib
namespace Go.Proofs.Ytochkamjfmdmoaa
open Go.RowKit

/-- the cells of pairs -/
def flat (ps : List (Int × Int)) : List Value := ps.flatMap fun p => [.int .i64 p.1, .int .i64 p.2]
def ints (l : List Int) : List Value := l.map (Value.int .i64)

theorem flat_length (ps : List (Int × Int)) : (flat ps).length = ps.length * 2 := by
  induction ps with
  | nil => rfl
  | cons p r ih => simp only [flat, List.flatMap_cons, List.length_append, List.length_cons, List.length_nil] at ih ⊢; omega
theorem flat_append (a b : List (Int × Int)) : flat (a ++ b) = flat a ++ flat b := by simp [flat]
theorem flat_at (ps : List (Int × Int)) : ∀ (i : Nat) (p : Int × Int), ps[i]? = some p → (flat ps)[i * 2]? = some (.int .i64 p.1) ∧ (flat ps)[i * 2 + 1]? = some (.int .i64 p.2) := by
  induction ps with
  | nil => intro i p h; simp at h
  | cons q r ih =>
    intro i p h
    cases i with
    | zero => simp at h; subst h; simp [flat]
    | succ i =>
      have := ih i p (by simpa using h)
      have e : flat (q :: r) = .int .i64 q.1 :: .int .i64 q.2 :: flat r := rfl
      rw [e, show (i + 1) * 2 = i * 2 + 1 + 1 from by omega]
      simpa using this
theorem ints_length (l : List Int) : (ints l).length = l.length := by simp [ints]
theorem ints_append (a b : List Int) : ints (a ++ b) = ints a ++ ints b := by simp [ints]

/-- the slice value v, whose cells lie below block B, reads as the pairs ps -/
def PairsAt (w : World) (B : Nat) (v : Value) (ps : List (Int × Int)) : Prop :=
  ∃ ao cap, v = .slice ao ps.length cap ∧ ∀ i p, ps[i]? = some p → ∃ b off, ao = some ⟨b, off, none⟩ ∧ b < B ∧ w.cell? ⟨b, off + i * 2, none⟩ = some (.int .i64 p.1) ∧ w.cell? ⟨b, off + i * 2 + 1, none⟩ = some (.int .i64 p.2)
/-- the slice value v, whose cells lie below block B, reads as the ints l -/
def IntsAt (w : World) (B : Nat) (v : Value) (l : List Int) : Prop :=
  ∃ ao cap, v = .slice ao l.length cap ∧ l.length ≤ cap ∧ ∀ i x, l[i]? = some x → ∃ b off, ao = some ⟨b, off, none⟩ ∧ b < B ∧ w.cell? ⟨b, off + i, none⟩ = some (.int .i64 x)

theorem PairsAt.chg {w w' : World} {B : Nat} {v : Value} {ps : List (Int × Int)} {S : Nat → Prop} (h : PairsAt w B v ps) (c : Chg S w w') (hS : ∀ k, k < B → ¬ S k) : PairsAt w' B v ps := by
  obtain ⟨ao, cap, hv, hc⟩ := h
  refine ⟨ao, cap, hv, fun i p hp => ?_⟩
  obtain ⟨b, off, h1, h2, h3, h4⟩ := hc i p hp
  exact ⟨b, off, h1, h2, c.cell h3 (hS _ h2), c.cell h4 (hS _ h2)⟩
theorem PairsAt.mono {w : World} {B B' : Nat} {v : Value} {ps : List (Int × Int)} (h : PairsAt w B v ps) (hB : B ≤ B') : PairsAt w B' v ps := by
  obtain ⟨ao, cap, hv, hc⟩ := h
  refine ⟨ao, cap, hv, fun i p hp => ?_⟩
  obtain ⟨b, off, h1, h2, h3⟩ := hc i p hp
  exact ⟨b, off, h1, Nat.lt_of_lt_of_le h2 hB, h3⟩
theorem IntsAt.chg {w w' : World} {B : Nat} {v : Value} {l : List Int} {S : Nat → Prop} (h : IntsAt w B v l) (c : Chg S w w') (hS : ∀ k, k < B → ¬ S k) : IntsAt w' B v l := by
  obtain ⟨ao, cap, hv, hlc, hc⟩ := h
  refine ⟨ao, cap, hv, hlc, fun i p hp => ?_⟩
  obtain ⟨b, off, h1, h2, h3⟩ := hc i p hp
  exact ⟨b, off, h1, h2, c.cell h3 (hS _ h2)⟩
theorem IntsAt.mono {w : World} {B B' : Nat} {v : Value} {l : List Int} (h : IntsAt w B v l) (hB : B ≤ B') : IntsAt w B' v l := by
  obtain ⟨ao, cap, hv, hlc, hc⟩ := h
  refine ⟨ao, cap, hv, hlc, fun i p hp => ?_⟩
  obtain ⟨b, off, h1, h2, h3⟩ := hc i p hp
  exact ⟨b, off, h1, Nat.lt_of_lt_of_le h2 hB, h3⟩
/-- only new blocks -/
theorem PairsAt.new {w w' : World} {v : Value} {ps : List (Int × Int)} {B : Nat} (h : PairsAt w B v ps) (c : Chg (fun _ => False) w w') : PairsAt w' B v ps := h.chg c (fun _ _ => id)
theorem IntsAt.new {w w' : World} {v : Value} {l : List Int} {B : Nat} (h : IntsAt w B v l) (c : Chg (fun _ => False) w w') : IntsAt w' B v l := h.chg c (fun _ _ => id)

theorem owned_pairs {w : World} {base : Nat} {v : Value} {ps : List (Int × Int)} {B : Nat} (h : w.ownsRow base 30 2 v ps.length (flat ps)) (hB : w.heap.size ≤ B) : PairsAt w B v ps := by
  have hlt := h.lt
  obtain ⟨h1, h2⟩ := h
  rcases h2 with ⟨rfl, h0⟩ | ⟨g, cap, cur, rfl, hb, hg, hn, hm, hc, ht⟩
  · exact ⟨none, 0, by rw [h0], fun i p hp => by rw [List.eq_nil_of_length_eq_zero h0] at hp; simp at hp⟩
  · refine ⟨_, _, rfl, fun i p hp => ⟨g, 0, rfl, Nat.lt_of_lt_of_le (hlt g rfl).2 hB, ?_, ?_⟩⟩
    · have := World.ownsRow.cells ⟨h1, Or.inr ⟨g, cap, cur, rfl, hb, hg, hn, hm, hc, ht⟩⟩ (g := g) rfl _ _ (flat_at ps i p hp).1
      rw [Addr.add_lit] at this; exact this
    · have := World.ownsRow.cells ⟨h1, Or.inr ⟨g, cap, cur, rfl, hb, hg, hn, hm, hc, ht⟩⟩ (g := g) rfl _ _ (flat_at ps i p hp).2
      rw [Addr.add_lit] at this; exact this
theorem owned_ints {w : World} {base : Nat} {e : TypeId} {v : Value} {l : List Int} {B : Nat} (h : w.ownsRow base e 1 v l.length (ints l)) (hB : w.heap.size ≤ B) : IntsAt w B v l := by
  have hlt := h.lt
  obtain ⟨h1, h2⟩ := h
  rcases h2 with ⟨rfl, h0⟩ | ⟨g, cap, cur, rfl, hb, hg, hn, hm, hc, ht⟩
  · exact ⟨none, 0, by rw [h0], by omega, fun i p hp => by rw [List.eq_nil_of_length_eq_zero h0] at hp; simp at hp⟩
  · refine ⟨_, _, rfl, hn, fun i p hp => ⟨g, 0, rfl, Nat.lt_of_lt_of_le (hlt g rfl).2 hB, ?_⟩⟩
    have := World.ownsRow.cells ⟨h1, Or.inr ⟨g, cap, cur, rfl, hb, hg, hn, hm, hc, ht⟩⟩ (g := g) rfl i (.int .i64 p) (by simp [ints, hp])
    rw [Addr.add_lit] at this; exact this
theorem ownsRow_base {w : World} {base base' : Nat} {e : TypeId} {size : Nat} {v : Value} {n : Nat} {xs : List Value} (h : w.ownsRow base e size v n xs) (hb : base' ≤ base) : w.ownsRow base' e size v n xs := by
  refine ⟨h.1, ?_⟩
  rcases h.2 with hn' | ⟨g, cap, cur, rfl, hb', hgg, rest⟩
  · exact .inl hn'
  · exact .inr ⟨g, cap, cur, rfl, Nat.le_trans hb hb', hgg, rest⟩
/-- what append leaves has changed only the own block, which is new since B -/
theorem Chg.app {w w' : World} {v : Value} {base : Nat} {e : TypeId} {size n : Nat} {xs : List Value} (hg : w.grownBy w' v.ownBlock) (h : w.ownsRow base e size v n xs) : Chg (fun k => base ≤ k) w w' :=
  (Chg.of_grown hg).mono (fun i _ hi => (h.lt i hi.symm).1)

end Go.Proofs.Ytochkamjfmdmoaa
