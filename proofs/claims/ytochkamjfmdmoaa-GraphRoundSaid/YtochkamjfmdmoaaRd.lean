/- The pairs of GraphRound: the round, and the round less one pair. No program in sight. -/
import Derived.Test.YtochkamjfmdmoaaPl
namespace Go.Proofs.Ytochkamjfmdmoaa

def stp (n : Int) (i : Nat) : Int × Int := ((i : Int) + 1, ((i : Int) + 1) % n + 1)
def cy (n : Int) (k : Nat) : List (Int × Int) := (List.range k).map (stp n)
def rs (n L : Int) (k : Nat) : List (Int × Int) := ((List.range k).filter (fun i : Nat => !((i : Int) == L))).map (stp n)

theorem cy_succ (n : Int) (k : Nat) : cy n (k + 1) = cy n k ++ [stp n k] := by simp [cy, List.range_succ]
theorem rs_succ_ne (n L : Int) (k : Nat) (h : (k : Int) ≠ L) : rs n L (k + 1) = rs n L k ++ [stp n k] := by
  simp [rs, List.range_succ, List.filter_append, h]
theorem rs_succ_eq (n L : Int) (k : Nat) (h : (k : Int) = L) : rs n L (k + 1) = rs n L k := by
  simp [rs, List.range_succ, List.filter_append, h]
theorem cy_length (n : Int) (k : Nat) : (cy n k).length = k := by simp [cy]
theorem rs_length (n L : Int) (k : Nat) : (rs n L k).length ≤ k := by
  unfold rs
  rw [List.length_map]
  exact Nat.le_trans (List.length_filter_le _ _) (by simp)
theorem mem_cy {n : Int} {k : Nat} {p : Int × Int} : p ∈ cy n k ↔ ∃ i, i < k ∧ p = stp n i := by
  unfold cy
  constructor
  · intro h
    obtain ⟨i, hi, e⟩ := List.mem_map.1 h
    exact ⟨i, List.mem_range.1 hi, e.symm⟩
  · rintro ⟨i, hi, e⟩
    exact List.mem_map.2 ⟨i, List.mem_range.2 hi, e.symm⟩
theorem mem_rs {n L : Int} {k : Nat} {p : Int × Int} : p ∈ rs n L k ↔ ∃ i : Nat, i < k ∧ (i : Int) ≠ L ∧ p = stp n i := by
  unfold rs
  constructor
  · intro h
    obtain ⟨i, hi, e⟩ := List.mem_map.1 h
    obtain ⟨h1, h2⟩ := List.mem_filter.1 hi
    exact ⟨i, List.mem_range.1 h1, by simpa using h2, e.symm⟩
  · rintro ⟨i, hi, hn, e⟩
    exact List.mem_map.2 ⟨i, List.mem_filter.2 ⟨List.mem_range.2 hi, by simpa using hn⟩, e.symm⟩

theorem stp_last (N : Nat) (h : 0 < N) : stp N (N - 1) = ((N : Int), 1) := by
  unfold stp
  have e : ((N - 1 : Nat) : Int) + 1 = N := by omega
  rw [e, Int.emod_self]
  rfl
theorem stp_mid (N i : Nat) (h : i + 1 < N) : stp N i = ((i : Int) + 1, (i : Int) + 2) := by
  unfold stp
  rw [Int.emod_eq_of_lt (by omega) (by omega), Int.add_assoc]
  rfl

/-- from 1 up to any number -/
theorem cy_up (N : Nat) (_hN : 0 < N) : ∀ j : Nat, 0 < j → j ≤ N → ∀ i : Nat, 0 < i → i < j → Tr (cy N N) (i : Int) (j : Int) := by
  intro j
  induction j with
  | zero => intro h; omega
  | succ j ih =>
    intro _ hj i hi hij
    have hs : (((j : Nat) : Int), ((j + 1 : Nat) : Int)) ∈ cy N N := mem_cy.2 ⟨j - 1, by omega, by rw [stp_mid N (j - 1) (by omega)]; apply Prod.ext <;> simp <;> omega⟩
    by_cases hij' : i = j
    · subst hij'; exact .one hs
    · exact .more (ih (by omega) (by omega) i hi (by omega)) hs
theorem cy_ring (N : Nat) {x : Int} (h1 : 1 ≤ x) (h2 : x ≤ N) : Tr (cy N N) x x := by
  have hN : 0 < N := by omega
  have hl : ((N : Int), (1 : Int)) ∈ cy N N := mem_cy.2 ⟨N - 1, by omega, (stp_last N hN).symm⟩
  obtain ⟨i, rfl⟩ : ∃ i : Nat, x = i := ⟨x.toNat, by omega⟩
  -- i .. N, 1 .. i
  have a : Tr (cy N N) (i : Int) 1 := by
    by_cases e : i = N
    · subst e; exact .one hl
    · exact .more (cy_up N hN N (by omega) (Nat.le_refl _) i (by omega) (by omega)) hl
  by_cases e : i = 1
  · subst e; exact a
  · exact a.trans (cy_up N hN i (by omega) (by omega) 1 (by omega) (by omega))
theorem cy_victim (N : Nat) (hN : 0 < N) : IsVictim (cy N N) N true := by
  refine ⟨fun _ => ⟨cy_ring N (by omega) (by omega), fun x hx => ?_⟩, by simp⟩
  obtain ⟨p, hp, rfl⟩ := hx.fst
  obtain ⟨i, hi, rfl⟩ := mem_cy.1 hp
  simp only [stp]
  omega

/-- the place on the way that is left -/
def rk (n L x : Int) : Int := if x > L + 1 then x - (L + 2) else x + n - (L + 2)
theorem rk_step (N : Nat) {L : Int} (h0 : 0 ≤ L) (_h1 : L < N) {p : Int × Int} (hp : p ∈ rs N L N) : rk N L p.1 < rk N L p.2 := by
  obtain ⟨i, hi, hn, rfl⟩ := mem_rs.1 hp
  by_cases h : i + 1 < N
  · rw [stp_mid N i h]
    simp only [rk]
    split <;> split <;> omega
  · have e : i = N - 1 := by omega
    subst e
    rw [stp_last N (by omega)]
    simp only [rk]
    split <;> split <;> omega
theorem rs_none (N : Nat) {L : Int} (h0 : 0 ≤ L) (h1 : L < N) (x : Int) : ¬ Tr (rs N L N) x x := by
  have key : ∀ a b, Tr (rs N L N) a b → rk N L a < rk N L b := by
    intro a b h
    induction h with
    | one h => exact rk_step N h0 h1 h
    | more _ h ih => exact Int.lt_trans ih (rk_step N h0 h1 h)
  intro h
  have := key _ _ h
  omega
end Go.Proofs.Ytochkamjfmdmoaa
