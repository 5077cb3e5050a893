/- Walks of small functions: ready, SameInts, Without, slices.Index. -/
import Derived.Test.YtochkamjfmdmoaaW1
import Derived.Test.YtochkamjfmdmoaaPl
namespace Go.Proofs.Ytochkamjfmdmoaa
open Go.RowKit

theorem ready_any {w : World} {v u : Value} {ps : List (Int × Int)} {l : List Int} {B C : Nat} (n : Int) (hp : PairsAt w B v ps) (hq : IntsAt w C u l) (hl : ps.length ≤ 1000) (hl2 : l.length ≤ 1000000) :
    Calls Try.prog 24 #[v, u, .int .i64 n] w (BoolPost w (readyB ps l n)) := by
  obtain ⟨ao, cap, rfl, -⟩ := id hp
  have HP := Lib.hid hp; clear hp
  have HQ := Lib.hid hq; clear hq
  go_enter Try.func24, Try.ntmps24
  go_wp2
  go_loop [7] (fun i => ∃ k : Nat, k ≤ ps.length ∧ i = .int .i64 k ∧ readyB (ps.take k) l n = true) (fun i => ps.length - (intOf i).toNat)
  case atStart => exact ⟨0, Nat.zero_le _, rfl, rfl⟩
  case round =>
    obtain ⟨k, hk, rfl, hne⟩ := hrel
    have HN := Lib.hid hne; clear hne
    by_cases hlt : k < ps.length
    · obtain ⟨ao', cap', hv', hcells⟩ := HP.out
      obtain ⟨b, off, rfl, hbB, c1, c2⟩ := hcells k _ (List.getElem?_eq_getElem hlt)
      cases hv'
      clear hcells
      obtain ⟨⟨x, y⟩, hx⟩ : ∃ x, ps[k] = x := ⟨_, rfl⟩
      rw [hx] at c1 c2
      simp only at c1 c2
      have HX := Lib.hid hx; clear hx
      have HM : Hid ((x, y) ∈ ps) := by show _ ∈ _; rw [← HX.out]; exact List.getElem_mem _
      have hstep : Hid (readyB (ps.take (k+1)) l n = !(x == n && !decide (y ∈ l))) := by
        show _ = _
        unfold readyB
        rw [List.take_succ_eq_append_getElem hlt, HX.out, List.all_append]
        have := HN.out; unfold readyB at this
        rw [this]; simp
      by_cases hxn : (x == n) = true
      · obtain ⟨q, hq⟩ : ∃ q, decide (y ∈ l) = q := ⟨_, rfl⟩
        have HY := Lib.hid hq; clear hq
        cases q
        · go_wp2_with (go_at_call 23; refine (in_any _ HQ.out (by omega)).mono ?_; rw [HY.out]; rintro e w' ⟨rfl, rfl⟩)
          go_ret
          refine ⟨?_, rfl⟩
          have : readyB ps l n = false := by
            unfold readyB
            rw [List.all_eq_false]
            exact ⟨(x, y), HM.out, by simp [hxn, HY.out]⟩
          rw [this]; rfl
        · go_wp2_with (go_at_call 23; refine (in_any _ HQ.out (by omega)).mono ?_; rw [HY.out]; rintro e w' ⟨rfl, rfl⟩)
          go_round
          case rel => exact ⟨k + 1, by omega, by go_num, by rw [hstep.out, HY.out]; simp⟩
          case measure => simp [intOf]; omega
      · have hxn : (x == n) = false := by simpa using hxn
        go_wp2
        go_round
        case rel => exact ⟨k + 1, by omega, by go_num, by rw [hstep.out, hxn]; simp⟩
        case measure => simp [intOf]; omega
    · go_wp2
      go_ret
      refine ⟨?_, rfl⟩
      have h1 := HN.out
      have : ps.take k = ps := List.take_of_length_le (by omega)
      rw [this] at h1
      rw [h1]; rfl

def BoolPost' (w : World) (b : Bool) (e : Ending) (w' : World) : Prop := e = .returned (.bool b) ∧ Chg (fun _ => False) w w'

theorem same_any {w : World} {v u : Value} {l m : List Int} {B C : Nat} (hp : IntsAt w B v l) (hq : IntsAt w C u m) (hl : l.length ≤ 1000000) (hl2 : m.length ≤ 1000000) :
    Calls Try.prog 16 #[v, u] w (BoolPost' w (decide (l = m))) := by
  obtain ⟨ao, cap, rfl, -⟩ := id hp
  obtain ⟨bo, bcap, rfl, -⟩ := id hq
  have HP := Lib.hid hp; clear hp
  have HQ := Lib.hid hq; clear hq
  by_cases hlen : ((l.length : Int) == (m.length : Int)) = true
  · have hlen' : l.length = m.length := by have := beq_iff_eq.1 hlen; omega
    have hneq : ((l.length : Int) != (m.length : Int)) = false := by simp [hlen']
    have HL := Lib.hid hlen'; clear hlen' hlen
    go_enter Try.func16, Try.ntmps16
    go_wp2
    go_loopw [5] (fun i wr => ∃ k : Nat, k ≤ l.length ∧ i = .int .i64 k ∧ l.take k = m.take k ∧ Chg (fun _ => False) w wr) (fun i _ => l.length - (intOf i).toNat)
    case atStart => exact ⟨0, Nat.zero_le _, rfl, rfl, Chg.refl _ _⟩
    case round =>
      obtain ⟨k, hk, rfl, hne, hc⟩ := hrel
      have HN := Lib.hid hne; clear hne
      have HC := Lib.hid hc; clear hc
      by_cases hlt : k < l.length
      · have hlt2 : k < m.length := by have := HL.out; omega
        obtain ⟨ao', cap', hv', -, hcells⟩ := HP.out
        obtain ⟨b, off, rfl, hbB, c1⟩ := hcells k _ (List.getElem?_eq_getElem hlt)
        cases hv'
        clear hcells
        obtain ⟨ao', cap', hv', -, hcells⟩ := HQ.out
        obtain ⟨b2, off2, rfl, hbB2, c2⟩ := hcells k _ (List.getElem?_eq_getElem hlt2)
        cases hv'
        clear hcells
        have c1' := HC.out.cell c1 id
        have c2' := HC.out.cell c2 id
        clear c1 c2
        have ht1 : Hid (l.take (k+1) = l.take k ++ [l[k]]) := by show _ = _; rw [List.take_succ_eq_append_getElem hlt]
        have ht2 : Hid (m.take (k+1) = m.take k ++ [m[k]]) := by show _ = _; rw [List.take_succ_eq_append_getElem hlt2]
        obtain ⟨x, hx⟩ : ∃ x, l[k] = x := ⟨_, rfl⟩
        obtain ⟨y, hy⟩ : ∃ x, m[k] = x := ⟨_, rfl⟩
        rw [hx] at c1' ht1
        rw [hy] at c2' ht2
        have HX := Lib.hid hx; clear hx
        have HY := Lib.hid hy; clear hy
        have hi0 : (0 : Int) ≤ (k : Int) := by omega
        have hi1 : (k : Int) < (l.length : Int) := by omega
        have hi2 : (k : Int) < (m.length : Int) := by omega
        by_cases hxy : (x == y) = true
        · have hne : (x != y) = false := by simp [beq_iff_eq.1 hxy]
          have HXY : Hid (x = y) := beq_iff_eq.1 hxy
          clear hxy
          go_wp2_with fail
          go_quiet (fail)
          go_wp2
          go_roundw
          case rel => exact ⟨k + 1, by omega, by go_num, by rw [ht1.out, ht2.out, HN.out, HXY.out], HC.out.trans (Chg.drewN _ _ _)⟩
          case measure => simp [intOf]; omega
        · have hxy : (x == y) = false := by simpa using hxy
          have hne : (x != y) = true := by simpa [bne] using hxy
          have HXY : Hid (x ≠ y) := beq_eq_false_iff_ne.1 hxy
          clear hxy
          go_wp2_with fail
          go_quiet (fail)
          go_wp2
          go_ret
          refine ⟨?_, HC.out.trans (Chg.drewN _ _ _)⟩
          have : l ≠ m := fun e => HXY.out (by subst e; rw [← HX.out, ← HY.out])
          simp [this]
      · go_wp2
        go_ret
        refine ⟨?_, HC.out⟩
        have h1 := HN.out
        rw [List.take_of_length_le (by omega), List.take_of_length_le (by have := HL.out; omega)] at h1
        simp [h1]
  · have hlen : ((l.length : Int) == (m.length : Int)) = false := by simpa using hlen
    have hneq : ((l.length : Int) != (m.length : Int)) = true := by simpa [bne] using hlen
    have HL : Hid (l ≠ m) := by intro e; subst e; simp at hlen
    clear hlen
    go_enter Try.func16, Try.ntmps16
    go_wp2
    go_ret
    refine ⟨?_, Chg.refl _ _⟩
    have := HL.out
    simp [this]

end Go.Proofs.Ytochkamjfmdmoaa
