/- Walks: awake. -/
import Derived.Test.YtochkamjfmdmoaaWE
namespace Go.Proofs.Ytochkamjfmdmoaa
open Go.RowKit

theorem litPairs (w : World) (ps : List (Int × Int)) (cap : Nat) : PairsAt (w.alloc (.cells (flat ps).toArray 30)) (w.heap.size + 1) (.slice (some ⟨w.heap.size, 0, none⟩) ps.length cap) ps := by
  refine ⟨_, cap, rfl, fun i p hp => ⟨w.heap.size, 0, rfl, by omega, ?_, ?_⟩⟩
  · have := (flat_at ps i p hp).1
    rw [World.cell?_alloc_new]
    simpa using this
  · have := (flat_at ps i p hp).2
    rw [World.cell?_alloc_new]
    simpa using this
theorem litInts (w : World) (l : List Int) (cap : Nat) (hc : l.length ≤ cap) : IntsAt (w.alloc (.cells (ints l).toArray 3)) (w.heap.size + 1) (.slice (some ⟨w.heap.size, 0, none⟩) l.length cap) l := by
  refine ⟨_, cap, rfl, hc, fun i p hp => ⟨w.heap.size, 0, rfl, by omega, ?_⟩⟩
  rw [World.cell?_alloc_new]
  simp [ints, hp]

def aw1 : List (Int × Int) := [(1, 2), (2, 1), (3, 1)]
def aw2 : List (Int × Int) := [(3, 1), (2, 1)]
theorem aw1_victim : IsVictim aw1 2 true := by
  refine ⟨fun _ => ⟨.more (.one (b := 1) (by decide)) (by decide), fun x hx => ?_⟩, by simp⟩
  obtain ⟨p, hp, rfl⟩ := hx.snd
  exact (by decide : ∀ p ∈ aw1, p.2 ≤ 2) p hp
theorem aw2_none (x : Int) : ¬ Tr aw2 x x := by
  intro h
  obtain ⟨p, hp, rfl⟩ := h.snd
  obtain ⟨q, hq, e⟩ := h.fst
  exact (by decide : ∀ p ∈ aw2, ∀ q ∈ aw2, q.1 ≠ p.2) p hp q hq e
theorem aw2_order : GInv aw2 [1, 2, 3] := by
  refine ⟨by decide, by decide, fun i x h => ?_⟩
  have hi : i < 3 := by simpa using (List.getElem?_eq_some_iff.1 h).1
  rcases (by omega : i = 0 ∨ i = 1 ∨ i = 2) with rfl | rfl | rfl <;> (simp at h; subst h; decide)

theorem awake_any (w : World) : Calls Try.prog 7 #[] w (BoolPost' w true) := by
  have HV := Lib.hid (victim_any (litPairs w aw1 3) (by decide))
  go_enter Try.func7, Try.ntmps7
  go_wp2_with (first
    | (go_at_call 10; refine HV.out.mono ?_; rintro e w1 ⟨n, is, rfl, hv, hc⟩; obtain ⟨rfl, rfl⟩ := hv.unique aw1_victim; have HC1 := Lib.hid ((Chg.alloc (fun _ => False) w (.cells (flat aw1).toArray 30)).trans hc); have HO := Lib.hid (order_any (litPairs w1 aw2 2) (by decide)); clear hv hc)
    | (go_at_call 8; refine HO.out.mono ?_; rintro e w2 ⟨v, l, is, rfl, ho, hl, hc, h0, h1⟩; obtain rfl : is = true := (by cases is; obtain ⟨_, x, hx⟩ := h0 rfl; exact absurd hx (aw2_none x); rfl); have hl3 := (h1 rfl).2.1.unique aw2_order (h1 rfl).2.2; subst hl3; have HC2 := Lib.hid ((HC1.out.trans (Chg.alloc (fun _ => False) w1 (.cells (flat aw2).toArray 30))).trans hc); have HS := Lib.hid (same_any (owned_ints (B := (w2.alloc (.cells (ints [1, 2, 3]).toArray 3)).heap.size) (ownsRow_chg ho (Chg.alloc (fun _ => False) w2 (.cells (ints [1, 2, 3]).toArray 3)) (fun _ _ => id)) (Nat.le_refl _)) (litInts w2 [1, 2, 3] 3 (by decide)) (by decide) (by decide)); clear ho hl hc h0 h1)
    | (go_at_call 16; refine HS.out.mono ?_; rintro e w3 ⟨rfl, hc⟩; have HC3 := Lib.hid ((HC2.out.trans (Chg.alloc (fun _ => False) w2 (.cells (ints [1, 2, 3]).toArray 3))).trans hc); clear hc))
  go_ret
  exact ⟨by simp, HC3.out⟩
end Go.Proofs.Ytochkamjfmdmoaa
