/- Walks: GraphRound. -/
import Derived.Test.YtochkamjfmdmoaaWG
import Derived.Test.YtochkamjfmdmoaaRd
namespace Go.Proofs.Ytochkamjfmdmoaa
open Go.RowKit

/-- two slices of pairs, each in memory of its own -/
structure Two (w : World) (base : Nat) (a c : Value) (p q : List (Int × Int)) : Prop where
  l : w.ownsRow base 30 2 a p.length (flat p)
  r : w.ownsRow base 30 2 c q.length (flat q)
  ne : ∀ g, a.ownBlock = some g → c.ownBlock = some g → False
section
variable {w w1 : World} {base : Nat} {a a' c : Value} {p q : List (Int × Int)}
theorem Two.swap (h : Two w base a c p q) : Two w base c a q p := ⟨h.r, h.l, fun g h1 h2 => h.ne g h2 h1⟩
theorem Two.new (h : Two w base a c p q) (hc : Chg (fun _ => False) w w1) : Two w1 base a c p q := ⟨ownsRow_chg h.l hc (fun _ _ => id), ownsRow_chg h.r hc (fun _ _ => id), h.ne⟩
theorem Two.put (h : Two w base a c p q) {x y : Int} (ho : w1.ownsRow base 30 2 a' (p.length + 1) (flat p ++ [.int .i64 x, .int .i64 y])) (hc : Chg (fun k => base ≤ k ∧ a.ownBlock = some k) w w1)
    (hb : a'.ownBlock = a.ownBlock ∨ a'.ownBlock = some (w.heap.size + 1)) : Two w1 base a' c (p ++ [(x, y)]) q := by
  refine ⟨by rw [List.length_append, flat_append]; exact ho, ownsRow_chg h.r hc (fun g hg e => h.ne g e.2 hg), fun g h1 h2 => ?_⟩
  rcases hb with e | e
  · exact h.ne g (by rw [← e]; exact h1) h2
  · rw [e] at h1; cases h1; have := (h.r.lt _ h2).2; omega
end

theorem less_bound (m : Int) (N : Nat) (h1 : 1 ≤ N) (h2 : N ≤ 60) : 0 ≤ wrap64 ((IntKind.u64.wrap m).tmod N) ∧ wrap64 ((IntKind.u64.wrap m).tmod N) < N := by
  have h0 : 0 ≤ IntKind.u64.wrap m := by simp [IntKind.wrap, IntKind.signed, IntKind.bits]; omega
  have h3 := Int.tmod_nonneg (N : Int) h0
  have h4 := Int.tmod_lt_of_pos (IntKind.u64.wrap m) (b := (N : Int)) (by omega)
  generalize (IntKind.u64.wrap m).tmod N = z at *
  unfold wrap64
  omega

set_option maxHeartbeats 1000000 in
theorem round_any (w : World) (n m : Int) : Calls Try.prog 6 #[.int .i64 n, .int .i64 m] w (BoolPost' w true) := by
  by_cases hs : n < 1
  · have HA := Lib.hid (awake_any w)
    go_enter Try.func6, Try.ntmps6
    go_wp2_with (go_at_call 7; refine HA.out.mono ?_; rintro e w1 ⟨rfl, hc⟩; have HC := Lib.hid hc; clear hc)
    go_ret
    exact ⟨rfl, HC.out⟩
  · by_cases hb : 60 < n
    · have HA := Lib.hid (awake_any w)
      go_enter Try.func6, Try.ntmps6
      go_wp2_with (go_at_call 7; refine HA.out.mono ?_; rintro e w1 ⟨rfl, hc⟩; have HC := Lib.hid hc; clear hc)
      go_ret
      exact ⟨rfl, HC.out⟩
    · obtain ⟨N, rfl⟩ : ∃ N : Nat, n = N := ⟨n.toNat, by omega⟩
      go_enter Try.func6, Try.ntmps6
      go_wp2_with fail
      have hLb := less_bound m N (by omega) (by omega)
      obtain ⟨L, hL⟩ : ∃ L, wrap64 ((IntKind.u64.wrap m).tmod N) = L := ⟨_, rfl⟩
      rw [hL] at hLb ⊢
      obtain ⟨hL0, hL1⟩ := hLb
      clear hL
      go_loopw [5, 6, 7] (fun a c i wr => ∃ k : Nat, k ≤ N ∧ i = .int .i64 k ∧ Two wr w.heap.size a c (cy N k) (rs N L k) ∧ Chg (fun _ => False) w wr) (fun _ _ i _ => N - (intOf i).toNat)
      case atStart => exact ⟨0, Nat.zero_le _, rfl, ⟨World.ownsRow_nil _ _ _ _, World.ownsRow_nil _ _ _ _, by simp [Value.ownBlock]⟩, Chg.refl _ _⟩
      case round =>
        obtain ⟨k, hk, rfl, ht, hc⟩ := hrel
        have HT := Lib.hid ht; have HC := Lib.hid hc; clear ht hc
        obtain ⟨al, lcap, rfl⟩ := owned_slice HT.out.l
        obtain ⟨ar, rcap, rfl⟩ := owned_slice HT.out.r
        rw [cy_length] at HT ⊢
        by_cases hlt : k < N
        · obtain ⟨y, hy⟩ : ∃ y, ((k : Int) + 1).tmod N = y := ⟨_, rfl⟩
          have hy0 : 0 ≤ y := by rw [← hy]; exact Int.tmod_nonneg _ (by omega)
          have hy1 : y < N := by rw [← hy]; exact Int.tmod_lt_of_pos _ (by omega)
          have HST : Hid (stp N k = ((k : Int) + 1, y + 1)) := (show _ = _ from by unfold stp; rw [← Int.tmod_eq_emod_of_nonneg (by omega), hy])
          obtain ⟨W0, hW0⟩ : ∃ W0, wr.alloc (.cells #[.int .i64 ((k : Int) + 1), .int .i64 (y + 1)] 30) = W0 := ⟨_, rfl⟩
          have HT0 : Hid (Two W0 w.heap.size (.slice al k lcap) (.slice ar (rs N L k).length rcap) (cy N k) (rs N L k)) := (show Two _ _ _ _ _ _ from by rw [← hW0]; exact HT.out.new (Chg.alloc (fun _ => False) _ _))
          have HC0 : Hid (Chg (fun _ => False) w W0) := (show Chg _ _ _ from by rw [← hW0]; exact HC.out.trans (Chg.alloc (fun _ => False) _ _))
          have ce0 : W0.cell? ⟨wr.heap.size, 0, none⟩ = some (.int .i64 ((k : Int) + 1)) := by rw [← hW0]; simp
          have ce1 : W0.cell? ⟨wr.heap.size, 1, none⟩ = some (.int .i64 (y + 1)) := by rw [← hW0]; simp
          have CE0 := Lib.hid ce0; have CE1 := Lib.hid ce1
          have HNE : Hid (¬ (w.heap.size ≤ wr.heap.size ∧ (Value.slice al k lcap).ownBlock = some wr.heap.size)) := (show ¬ _ from fun e => by have := (HT.out.l.lt _ e.2).2; omega)
          have hrl := rs_length N L k
          by_cases hkL : (k : Int) = L
          · have hbne : ((k : Int) != L) = false := by simp [hkL]
            have HKL := Lib.hid hkL; clear hkL
            go_wp2_with (at_builtin; refine wpList_app2 (v := .slice al k lcap) rfl (.tmp 40) (.tmp 42) 22 rfl Try.underlying22 Try.info30 rfl (by decide) (by decide) [.int .i64 ((k : Int) + 1), .int .i64 (y + 1)] rfl rfl HT0.out.l rfl rfl (by intro u hu; simp at hu; rcases hu with rfl | rfl <;> rfl) (by rw [cy_length]; omega) HC0.out.size ?_; intro v1 w1 ho1 hc1 hb1; have HT1 := Lib.hid (HT0.out.put ho1 hc1 hb1); have HC1 := Lib.hid (HC0.out.trans' hc1 (fun i hi e => by have := e.1; omega)); have ce0 := hc1.cell CE0.out HNE.out; have ce1 := hc1.cell CE1.out HNE.out; clear ho1 hc1 hb1)
            go_roundw
            case rel => exact ⟨k + 1, by omega, by go_num, by rw [cy_succ, rs_succ_eq _ _ _ HKL.out, HST.out]; exact HT1.out, HC1.out⟩
            case measure => simp [intOf] <;> omega
          · have hbne : ((k : Int) != L) = true := by simp [hkL]
            have HKL := Lib.hid hkL; clear hkL
            go_wp2_with (first
              | (at_builtin; refine wpList_app2 (v := .slice al k lcap) rfl (.tmp 40) (.tmp 42) 22 rfl Try.underlying22 Try.info30 rfl (by decide) (by decide) [.int .i64 ((k : Int) + 1), .int .i64 (y + 1)] rfl rfl HT0.out.l rfl rfl (by intro u hu; simp at hu; rcases hu with rfl | rfl <;> rfl) (by rw [cy_length]; omega) HC0.out.size ?_; intro v1 w1 ho1 hc1 hb1; have HT1 := Lib.hid (HT0.out.put ho1 hc1 hb1); have HC1 := Lib.hid (HC0.out.trans' hc1 (fun i hi e => by have := e.1; omega)); have ce0 := hc1.cell CE0.out HNE.out; have ce1 := hc1.cell CE1.out HNE.out; clear ho1 hc1 hb1)
              | (at_builtin; refine wpList_app2 (v := .slice ar (rs N L k).length rcap) rfl (.tmp 47) (.tmp 49) 22 rfl Try.underlying22 Try.info30 rfl (by decide) (by decide) [.int .i64 ((k : Int) + 1), .int .i64 (y + 1)] rfl rfl HT1.out.r rfl rfl (by intro u hu; simp at hu; rcases hu with rfl | rfl <;> rfl) (by omega) HC1.out.size ?_; intro v2 w2 ho2 hc2 hb2; have HT2 := Lib.hid (HT1.out.swap.put ho2 hc2 hb2).swap; have HC2 := Lib.hid (HC1.out.trans' hc2 (fun i hi e => by have := e.1; omega)); clear ho2 hc2 hb2))
            go_roundw
            case rel => exact ⟨k + 1, by omega, by go_num, by rw [cy_succ, rs_succ_ne _ _ _ HKL.out, HST.out]; exact HT2.out, HC2.out⟩
            case measure => simp [intOf] <;> omega
        · obtain rfl : k = N := by omega
          have HP1 := Lib.hid (owned_pairs (B := wr.heap.size) HT.out.l (Nat.le_refl _))
          have HP2 := Lib.hid (owned_pairs (B := wr.heap.size) HT.out.r (Nat.le_refl _))
          have hrl := rs_length k L k
          have hcl := cy_length k k
          have HCV := Lib.hid (cy_victim k (by omega))
          have HCR := Lib.hid (fun j : Nat => fun (h1 : (1 : Int) ≤ j) (h2 : (j : Int) ≤ k) => cy_ring k h1 h2)
          have HRN := Lib.hid (rs_none k hL0 hL1)
          obtain ⟨R, hR⟩ : ∃ r, (rs k L k).length = r := ⟨_, rfl⟩
          rw [hR] at HP2 ⊢
          have hR2 : (rs k L k).length ≤ k := hrl
          obtain ⟨p1, hp1⟩ : ∃ p, cy k k = p := ⟨_, rfl⟩
          obtain ⟨p2, hp2⟩ : ∃ p, rs k L k = p := ⟨_, rfl⟩
          rw [hp1] at HP1 HCV HCR hcl
          rw [hp2] at HP2 HRN hR2
          clear hp1 hp2 hR hrl
          have hl1 : p1.length ≤ 1000 := by omega
          have hl2 : p2.length ≤ 1000 := by omega
          have HK := Lib.hid (Chg.refl (fun _ => False) wr)
          have HF1 := Lib.hid True.intro
          clear HT
          go_wp2_with (first
            | (go_at_call 10; clear HF1; refine (victim_any (HP1.out.new HK.out) hl1).mono ?_; rintro e w' ⟨n1, is1, rfl, hv, hc⟩; obtain ⟨rfl, rfl⟩ := hv.unique (HCV.out); replace HK := Lib.hid (HK.out.trans hc); clear hv hc)
            | (go_at_call 10; refine (victim_any (HP2.out.new HK.out) hl2).mono ?_; rintro e w' ⟨n2, is2, rfl, hv, hc⟩; obtain rfl : is2 = false := (by cases is2; rfl; exact absurd (hv.1 rfl).1 (HRN.out _)); replace HK := Lib.hid (HK.out.trans hc); clear hv hc))
          go_loopw [13] (fun i wq => ∃ j : Nat, 1 ≤ j ∧ j ≤ k + 1 ∧ i = .int .i64 j ∧ Chg (fun _ => False) wr wq) (fun i _ => k + 1 - (intOf i).toNat)
          case atStart => exact ⟨1, Nat.le_refl _, by omega, rfl, HK.out⟩
          case round =>
            obtain ⟨j, hj1, hj2, rfl, hk⟩ := hrel
            replace HK := Lib.hid hk; clear hk
            by_cases hjk : j ≤ k
            · have HQ1 : Hid (Tr p1 (j : Int) j) := (show Tr _ _ _ from HCR.out j (by omega) (by omega))
              have HQ2 : Hid (¬ Tr p2 (j : Int) j) := (show ¬ _ from HRN.out _)
              have HF2 := Lib.hid True.intro; have HF3 := Lib.hid True.intro
              go_wp2_with (first
                | (go_at_call 9; clear HF2; refine (own_p (HP1.out.new HK.out) hl1).mono ?_; rintro e w' ⟨v1, rfl, hp1, hc⟩; replace HK := Lib.hid (HK.out.trans hc); have HO1 := Lib.hid hp1; clear hp1 hc)
                | (go_at_call 14; clear HF3; refine (ring_any (j : Int) true ⟨fun _ => HQ1.out, fun _ => rfl⟩ HO1.out hl1).mono ?_; rintro e w' ⟨rfl, hc⟩; replace HK := Lib.hid (HK.out.trans hc); clear hc)
                | (go_at_call 9; refine (own_p (HP2.out.new HK.out) hl2).mono ?_; rintro e w' ⟨v2, rfl, hp1, hc⟩; replace HK := Lib.hid (HK.out.trans hc); have HO2 := Lib.hid hp1; clear hp1 hc)
                | (go_at_call 14; refine (ring_any (j : Int) false ⟨(fun e => by cases e), fun e => absurd e HQ2.out⟩ HO2.out hl2).mono ?_; rintro e w' ⟨rfl, hc⟩; replace HK := Lib.hid (HK.out.trans hc); clear hc))
              go_roundw
              case rel => exact ⟨j + 1, by omega, by omega, by go_num, HK.out⟩
              case measure => simp [intOf] <;> omega
            · go_wp2_with (go_at_call 7; refine (awake_any _).mono ?_; rintro e w' ⟨rfl, hc⟩; replace HK := Lib.hid (HK.out.trans hc); clear hc)
              go_ret
              exact ⟨rfl, HC.out.trans HK.out⟩
end Go.Proofs.Ytochkamjfmdmoaa
