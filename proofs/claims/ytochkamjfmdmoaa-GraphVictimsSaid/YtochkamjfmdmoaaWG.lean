/- Walks: GraphTells. -/
import Derived.Test.YtochkamjfmdmoaaWF
namespace Go.Proofs.Ytochkamjfmdmoaa
open Go.RowKit

def OrdRes (ps : List (Int × Int)) (l : List Int) (is : Bool) : Prop := (is = false → l = [] ∧ ∃ x, Tr ps x x) ∧ (is = true → (∀ x, ¬ Tr ps x x) ∧ GInv ps l ∧ l.length = (nums ps).length)
theorem OrdRes.unique {ps : List (Int × Int)} {l m : List Int} {a b : Bool} (h : OrdRes ps l a) (k : OrdRes ps m b) : l = m ∧ a = b := by
  cases a <;> cases b
  · exact ⟨(h.1 rfl).1.trans (k.1 rfl).1.symm, rfl⟩
  · obtain ⟨_, x, hx⟩ := h.1 rfl; exact absurd hx ((k.2 rfl).1 x)
  · obtain ⟨_, x, hx⟩ := k.1 rfl; exact absurd hx ((h.2 rfl).1 x)
  · exact ⟨(h.2 rfl).2.1.unique (k.2 rfl).2.1 ((h.2 rfl).2.2.trans (k.2 rfl).2.2.symm), rfl⟩

def OwnP (w : World) (ps : List (Int × Int)) (e : Ending) (w' : World) : Prop := ∃ v', e = .returned v' ∧ PairsAt w' w'.heap.size v' ps ∧ Chg (fun _ => False) w w'
theorem own_p {w : World} {v : Value} {ps : List (Int × Int)} {B : Nat} (hp : PairsAt w B v ps) (hl : ps.length ≤ 1000) : Calls Try.prog 9 #[v] w (OwnP w ps) := by
  refine (own_any hp (by omega)).mono ?_
  rintro e w' ⟨v', rfl, ho, hc⟩
  exact ⟨v', rfl, owned_pairs ho (Nat.le_refl _), hc⟩
def OrdP (w : World) (ps : List (Int × Int)) (e : Ending) (w' : World) : Prop := ∃ v l is, e = .returned (.tuple #[v, .bool is]) ∧ IntsAt w' w'.heap.size v l ∧ l.length ≤ 2000 ∧ OrdRes ps l is ∧ Chg (fun _ => False) w w'
theorem ord_p {w : World} {ps : List (Int × Int)} {e : Ending} {w' : World} (h : OrderPost w ps e w') : OrdP w ps e w' := by
  obtain ⟨v, l, is, rfl, ho, hl, hc, h0, h1⟩ := h
  exact ⟨v, l, is, rfl, owned_ints ho (Nat.le_refl _), hl, ⟨h0, h1⟩, hc⟩
theorem order_p {w : World} {v : Value} {ps : List (Int × Int)} {B : Nat} (hp : PairsAt w B v ps) (hl : ps.length ≤ 1000) : Calls Try.prog 8 #[v] w (OrdP w ps) := (order_any hp hl).mono fun _ _ h => ord_p h
theorem refOrder_p {w : World} {v : Value} {ps : List (Int × Int)} {B : Nat} (hp : PairsAt w B v ps) (hl : ps.length ≤ 1000) : Calls Try.prog 13 #[v] w (OrdP w ps) := (refOrder_any hp hl).mono fun _ _ h => ord_p h

set_option maxHeartbeats 1000000 in
theorem tells_any {w : World} {v : Value} {ps : List (Int × Int)} {B : Nat} (n : Int) (hp : PairsAt w B v ps) : Calls Try.prog 4 #[v, .int .i64 n] w (BoolPost' w true) := by
  obtain ⟨ao, cap, rfl, -⟩ := id hp
  have HP := Lib.hid hp; clear hp
  by_cases hbig : 60 < ps.length
  · have HA := Lib.hid (awake_any w)
    go_enter Try.func4, Try.ntmps4
    go_wp2_with (go_at_call 7; refine HA.out.mono ?_; rintro e w1 ⟨rfl, hc⟩; have HC := Lib.hid hc; clear hc)
    go_ret
    exact ⟨rfl, HC.out⟩
  · have hl : ps.length ≤ 1000 := by omega
    have HC := Lib.hid (Chg.refl (fun _ => False) w)
    have HQ : Hid (ringB ps n = true ↔ Tr ps n n) := ringB_iff
    obtain ⟨q, hq⟩ : ∃ q, ringB ps n = q := ⟨_, rfl⟩
    rw [hq] at HQ
    clear hq
    go_enter Try.func4, Try.ntmps4
    go_wp2_with (first
      | (go_at_call 9; refine (own_p (HP.out.new HC.out) hl).mono ?_; rintro e w' ⟨v1, rfl, hp1, hc⟩; replace HC := Lib.hid (HC.out.trans hc); (try (replace HK := Lib.hid (HK.out.trans hc))); have HP1 := Lib.hid hp1; clear hp1 hc)
      | (go_at_call 10; refine (victim_any HP1.out hl).mono ?_; rintro e w' ⟨n1, is1, rfl, hv, hc⟩; replace HC := Lib.hid (HC.out.trans hc); have HV1 := Lib.hid hv; clear hv hc HP1)
      | (go_at_call 12; refine (refVictim_any (HP.out.new HC.out) hl).mono ?_; rintro e w' ⟨n2, is2, rfl, hv, hc⟩; replace HC := Lib.hid (HC.out.trans hc); obtain ⟨rfl, rfl⟩ := hv.unique HV1.out; clear hv hc HV1)
      | (go_at_call 8; refine (order_p HP1.out hl).mono ?_; rintro e w' ⟨v3, l3, is3, rfl, hi, hll, hr, hc⟩; replace HC := Lib.hid (HC.out.trans hc); have HI3 := Lib.hid hi; have HL3 := Lib.hid hll; have HR3 := Lib.hid hr; clear hi hll hr hc HP1)
      | (go_at_call 13; refine (refOrder_p (HP.out.new HC.out) hl).mono ?_; rintro e w' ⟨v4, l4, is4, rfl, hi, hll, hr, hc⟩; replace HC := Lib.hid (HC.out.trans hc); obtain ⟨rfl, rfl⟩ := hr.unique HR3.out; replace HI3 := Lib.hid (HI3.out.new hc); have HI4 := Lib.hid hi; have HK := Lib.hid (Chg.refl (fun _ => False) w'); clear hi hll hr hc HR3)
      | (go_at_call 14; refine (ring_any n q HQ.out HP1.out hl).mono ?_; rintro e w' ⟨rfl, hc⟩; replace HC := Lib.hid (HC.out.trans hc); replace HK := Lib.hid (HK.out.trans hc); clear hc HP1)
      | (go_at_call 15; refine (refRing_any n q HQ.out (HP.out.new HC.out) hl).mono ?_; rintro e w' ⟨rfl, hc⟩; replace HC := Lib.hid (HC.out.trans hc); replace HK := Lib.hid (HK.out.trans hc); clear hc)
      | (go_at_call 16; refine (same_any (HI3.out.new HK.out) (HI4.out.new HK.out) (Nat.le_trans HL3.out (by decide)) (Nat.le_trans HL3.out (by decide))).mono ?_; rintro e w' ⟨rfl, hc⟩; rw [decide_eq_true rfl]; replace HC := Lib.hid (HC.out.trans hc); clear hc)
      | (go_at_call 7; refine (awake_any _).mono ?_; rintro e w' ⟨rfl, hc⟩; replace HC := Lib.hid (HC.out.trans hc); clear hc))
    go_ret
    exact ⟨rfl, HC.out⟩
end Go.Proofs.Ytochkamjfmdmoaa
