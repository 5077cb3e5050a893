/- Walks: Ring, Victim. -/
import Derived.Test.YtochkamjfmdmoaaW8
namespace Go.Proofs.Ytochkamjfmdmoaa
open Go.RowKit

theorem ring_any {w : World} {v : Value} {ps : List (Int × Int)} {B : Nat} (n : Int) (q : Bool) (hq : q = true ↔ Tr ps n n) (hp : PairsAt w B v ps) (hl : ps.length ≤ 1000) :
    Calls Try.prog 14 #[v, .int .i64 n] w (BoolPost' w q) := by
  have HP := Lib.hid hp; clear hp
  have HQ := Lib.hid hq; clear hq
  have HR := Lib.hid (rings_any HP.out hl)
  go_enter Try.func14, Try.ntmps14
  go_wp2_with (first
    | (go_at_call 18; refine HR.out.mono ?_; rintro e w1 ⟨r, rfl, hr, ⟨l, hm, hall⟩, hc⟩; have hlk := hm.run_lookup (P := Try.prog) Try.underlying38 Try.underlying3 (zero4 _) n; have hlk' : (l.get n).getD (.bool false) = .bool q := (by rcases hall n with ⟨h1, h2⟩ | ⟨h1, h2⟩; (rw [h1, HQ.out.2 h2]; rfl); (rw [h1]; cases q; rfl; exact absurd (HQ.out.1 rfl) h2)); rw [hlk'] at hlk; have HC := Lib.hid hc; clear hc hall hm hlk'))
  go_ret
  exact ⟨rfl, HC.out⟩

theorem victim_any {w : World} {v : Value} {ps : List (Int × Int)} {B : Nat} (hp : PairsAt w B v ps) (hl : ps.length ≤ 1000) :
    Calls Try.prog 10 #[v] w (VictimPost w ps) := by
  have HP := Lib.hid hp; clear hp
  have HR := Lib.hid (rings_any HP.out hl)
  go_enter Try.func10, Try.ntmps10
  go_wp2_with (first
    | (go_at_call 18; refine HR.out.mono ?_; rintro e w1 ⟨r, rfl, hr, ⟨l, hm, hall⟩, hc⟩; have HM := Lib.hid hm; have HA := Lib.hid hall; have HC := Lib.hid hc; clear hm hall hc)
    | (at_range; refine wpList_rangeM rfl _ 38 rfl Try.underlying38 rfl HM.out ?_))
  intro w2 hit hc2 hs2
  have HIT := Lib.hid hit; have HC2 : Hid (Chg (fun _ => False) w w2) := HC.out.trans hc2; clear hit hc2 hs2
  have hw1 : w.heap.size ≤ w1.heap.size := HC.out.size
  obtain ⟨R, hR⟩ : ∃ R, w1.heap.size = R := ⟨_, rfl⟩
  rw [hR] at HIT hw1 ⊢
  clear hR HC
  go_wp2_with fail
  go_loopg [4, 5] (l.length + 1) (fun g b i wr => ∃ (done : List Int) (best : Int) (is : Bool), b = .int .i64 best ∧ i = .bool is ∧ IterAt wr r R l done ∧ Chg (fun _ => False) w wr ∧ ((is = false ∧ best = 0 ∧ done = []) ∨ (is = true ∧ best ∈ done ∧ ∀ x ∈ done, x ≤ best)) ∧ l.length - done.length < g)
  case atStart => exact ⟨[], 0, false, rfl, rfl, HIT.out, HC2.out, .inl ⟨rfl, rfl, rfl⟩, by simp⟩
  case round =>
    obtain ⟨done, best, is, rfl, rfl, hit, hc, hb, hlt⟩ := hrel
    clear HIT HC2
    have HIT := Lib.hid hit; have HB := Lib.hid hb; have HC := Lib.hid hc; have HLT := Lib.hid hlt
    clear hit hb hc hlt
    go_wp2_with (at_next; refine wpList_nextM rfl _ rfl rfl HIT.out ?_ ?_)
    · intro hd
      have HD := Lib.hid hd; clear hd
      go_wp2
      go_ret2
      have hmem : ∀ x, Tr ps x x ↔ x ∈ done := by
        intro x
        rw [← HD.out, AL.mem_keys]
        rcases HA.out x with ⟨h1, h2⟩ | ⟨h1, h2⟩
        · exact ⟨fun _ => ⟨_, h1⟩, fun _ => h2⟩
        · exact ⟨fun h => absurd h h2, fun ⟨v, hv⟩ => by rw [h1] at hv; cases hv⟩
      refine ⟨best, is, rfl, ⟨fun h => ?_, fun h => ?_⟩, HC.out⟩
      · rcases HB.out with ⟨h1, _⟩ | ⟨_, h2, h3⟩
        · rw [h1] at h; cases h
        · exact ⟨(hmem best).2 h2, fun x hx => h3 x ((hmem x).1 hx)⟩
      · rcases HB.out with ⟨_, h2, h3⟩ | ⟨h1, _⟩
        · exact ⟨h2, fun x hx => by have := (hmem x).1 hx; rw [h3] at this; cases this⟩
        · rw [h1] at h; cases h
    · intro x vx w4 hget hnd hit4 hc4 hs4 hen
      have HIT4 := Lib.hid hit4; have HC4 : Hid (Chg (fun _ => False) w w4) := HC.out.trans' hc4 (fun i hi h => by omega); clear hit4 hc4 hs4 hget hnd
      have hlen : done.length + 1 ≤ l.length := by
        have h1 := HIT4.out
        obtain ⟨es, clock, since, c0, seen, _, _, _, _, _, _, _, _, hk, hn⟩ := h1
        have := nodup_length_le hn (m := l.keys) hk
        simpa [AL.keys] using this
      cases is
      · go_wp2
        go_roundg (l.length - (done.length + 1) + 1)
        case measure => have := HLT.out; omega
        case rel => exact ⟨done ++ [x], x, true, rfl, rfl, HIT4.out, HC4.out, .inr ⟨rfl, by simp, by
          rcases HB.out with ⟨_, _, h3⟩ | ⟨h1, _⟩
          · rw [h3]; simp
          · cases h1⟩, by simp⟩
      · by_cases hxb : best < x
        · go_wp2
          go_roundg (l.length - (done.length + 1) + 1)
          case measure => have := HLT.out; omega
          case rel => exact ⟨done ++ [x], x, true, rfl, rfl, HIT4.out, HC4.out, .inr ⟨rfl, by simp, by
            rcases HB.out with ⟨h1, _⟩ | ⟨_, h2, h3⟩
            · cases h1
            · intro y hy
              rcases List.mem_append.1 hy with hy | hy
              · have := h3 y hy; omega
              · simp at hy; omega⟩, by simp⟩
        · go_wp2
          go_roundg (l.length - (done.length + 1) + 1)
          case measure => have := HLT.out; omega
          case rel => exact ⟨done ++ [x], best, true, rfl, rfl, HIT4.out, HC4.out, .inr ⟨rfl, by
            rcases HB.out with ⟨h1, _⟩ | ⟨_, h2, h3⟩
            · cases h1
            · simp [h2], by
            rcases HB.out with ⟨h1, _⟩ | ⟨_, h2, h3⟩
            · cases h1
            · intro y hy
              rcases List.mem_append.1 hy with hy | hy
              · exact h3 y hy
              · simp at hy; omega⟩, by simp⟩
end Go.Proofs.Ytochkamjfmdmoaa
