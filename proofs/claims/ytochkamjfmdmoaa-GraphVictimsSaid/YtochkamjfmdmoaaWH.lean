/- Walks: GraphOrders. -/
import Derived.Test.YtochkamjfmdmoaaWG
namespace Go.Proofs.Ytochkamjfmdmoaa
open Go.RowKit

/-- a: the last place below k at which x stands in l, or -1 -/
def Idx (l : List Int) (x : Int) (k : Nat) (a : Int) : Prop := (a = -1 ∧ ∀ i, i < k → l[i]? ≠ some x) ∨ (∃ i, i < k ∧ l[i]? = some x ∧ a = (i : Int))
theorem Idx.start (l : List Int) (x : Int) : Idx l x 0 (-1) := .inl ⟨rfl, fun i hi => absurd hi (Nat.not_lt_zero i)⟩
theorem Idx.hit {l : List Int} {x a : Int} {k : Nat} (_h : Idx l x k a) (hk : l[k]? = some x) : Idx l x (k + 1) k := .inr ⟨k, Nat.lt_succ_self k, hk, rfl⟩
theorem Idx.miss {l : List Int} {x a z : Int} {k : Nat} (h : Idx l x k a) (hk : l[k]? = some z) (hz : z ≠ x) : Idx l x (k + 1) a := by
  rcases h with ⟨h1, h2⟩ | ⟨i, h1, h2, h3⟩
  · refine .inl ⟨h1, fun i hi e => ?_⟩
    by_cases hik : i = k
    · subst hik; rw [hk] at e; exact hz (Option.some.inj e)
    · exact h2 i (by omega) e
  · exact .inr ⟨i, by omega, h2, h3⟩
theorem Idx.found {l : List Int} {x a : Int} (h : Idx l x l.length a) (hx : x ∈ l) : ∃ i : Nat, l[i]? = some x ∧ a = (i : Int) := by
  rcases h with ⟨_, h2⟩ | ⟨i, _, h2, h3⟩
  · obtain ⟨i, hi, e⟩ := List.getElem_of_mem hx
    exact absurd (by rw [List.getElem?_eq_getElem hi, e]) (h2 i hi)
  · exact ⟨i, h2, h3⟩

theorem GInv.whole {ps : List (Int × Int)} {l : List Int} (h : GInv ps l) (hl : l.length = (nums ps).length) {x : Int} (hx : x ∈ nums ps) : x ∈ l := by
  refine Classical.byContradiction fun hn => ?_
  have := nodup_length_le (l := x :: l) (m := nums ps) (List.nodup_cons.2 ⟨hn, h.nodup⟩) (fun y hy => by
    rcases List.mem_cons.1 hy with rfl | hy
    · exact hx
    · exact h.sub y hy)
  simp at this
  omega

theorem OrdRes.ring {ps : List (Int × Int)} {l : List Int} {a b : Bool} {n : Int} (h : OrdRes ps l a) (k : IsVictim ps n b) : b = !a := by
  cases a <;> cases b
  · obtain ⟨_, x, hx⟩ := h.1 rfl; exact absurd hx ((k.2 rfl).2 x)
  · rfl
  · rfl
  · exact absurd (k.1 rfl).1 ((h.2 rfl).1 n)

set_option maxHeartbeats 1000000 in
theorem orders_any {w : World} {v : Value} {ps : List (Int × Int)} {B : Nat} (hp : PairsAt w B v ps) : Calls Try.prog 3 #[v] w (BoolPost' w true) := by
  obtain ⟨ao, cap, rfl, -⟩ := id hp
  have HP := Lib.hid hp; clear hp
  by_cases hbig : 60 < ps.length
  · have HA := Lib.hid (awake_any w)
    go_enter Try.func3, Try.ntmps3
    go_wp2_with (go_at_call 7; refine HA.out.mono ?_; rintro e w1 ⟨rfl, hc⟩; have HC := Lib.hid hc; clear hc)
    go_ret
    exact ⟨rfl, HC.out⟩
  · have hl : ps.length ≤ 1000 := by omega
    have HC := Lib.hid (Chg.refl (fun _ => False) w)
    go_enter Try.func3, Try.ntmps3
    go_wp2_with (first
      | (go_at_call 9; refine (own_p (HP.out.new HC.out) hl).mono ?_; rintro e w' ⟨v1, rfl, hp1, hc⟩; replace HC := Lib.hid (HC.out.trans hc); (try (replace HI3 := Lib.hid (HI3.out.new hc))); have HP1 := Lib.hid hp1; clear hp1 hc)
      | (go_at_call 8; refine (order_p HP1.out hl).mono ?_; rintro e w' ⟨v3, l3, is3, rfl, hi, hll, hr, hc⟩; obtain ⟨bo3, bcap3, rfl, -⟩ := id hi; replace HC := Lib.hid (HC.out.trans hc); have HI3 := Lib.hid hi; have HL3 := Lib.hid hll; have HR3 := Lib.hid hr; clear hi hll hr hc HP1)
      | (go_at_call 10; refine (victim_any HP1.out hl).mono ?_; rintro e w' ⟨n1, is1, rfl, hv, hc⟩; have hne : (is3 == is1) = false := (by rw [HR3.out.ring hv]; cases is3 <;> rfl); replace HC := Lib.hid (HC.out.trans hc); replace HI3 := Lib.hid (HI3.out.new hc); clear hv hc HP1)
      | (go_at_call 7; refine (awake_any _).mono ?_; rintro e w' ⟨rfl, hc⟩; replace HC := Lib.hid (HC.out.trans hc); clear hc))
    · go_ret
      exact ⟨rfl, HC.out⟩
    · exact absurd (HR3.out.1 (by simpa using ‹(!is3) = true›)).1 ‹¬ l3 = []›
    · have HG3 : Hid ((∀ x, ¬ Tr ps x x) ∧ GInv ps l3 ∧ l3.length = (nums ps).length) := HR3.out.2 (by simpa using ‹(!is3) = false›)
      have hno : (!is3) = false := by assumption
      rw [hno]
      clear HR3
      have hl3 : l3.length ≤ 2000 := HL3.out
      go_loopw [7] (fun i wr => ∃ k : Nat, k ≤ ps.length ∧ i = .int .i64 k ∧ (∃ B, IntsAt wr B (.slice bo3 l3.length bcap3) l3) ∧ Chg (fun _ => False) w wr) (fun i _ => ps.length - (intOf i).toNat)
      case atStart => exact ⟨0, Nat.zero_le _, rfl, ⟨_, HI3.out⟩, HC.out⟩
      case round =>
        obtain ⟨k, hk, rfl, ⟨B3, hi⟩, hc⟩ := hrel
        replace HI3 := Lib.hid hi; replace HC := Lib.hid hc; clear hi hc
        by_cases hlt : k < ps.length
        · obtain ⟨ao', cap', hv', hcells⟩ := HP.out.new HC.out
          obtain ⟨b, off, rfl, hbB, c1, c2⟩ := hcells k _ (List.getElem?_eq_getElem hlt)
          cases hv'
          clear hcells
          obtain ⟨⟨x, y⟩, hx⟩ : ∃ x, ps[k] = x := ⟨_, rfl⟩
          rw [hx] at c1 c2
          simp only at c1 c2
          have HXY : Hid ((x, y) ∈ ps) := by show _ ∈ _; rw [← hx]; exact List.getElem_mem _
          clear hx
          have HC1 := Lib.hid c1; have HC2 := Lib.hid c2; clear c1 c2
          go_wp2_with fail
          go_loopw [8, 9, 10] (fun a c j wq => ∃ (m : Nat) (at_ bt : Int), m ≤ l3.length ∧ a = .int .i64 at_ ∧ c = .int .i64 bt ∧ j = .int .i64 m ∧ Idx l3 x m at_ ∧ Idx l3 y m bt ∧ -1 ≤ at_ ∧ at_ ≤ 2000 ∧ -1 ≤ bt ∧ bt ≤ 2000 ∧ Chg (fun _ => False) wr wq) (fun _ _ j _ => l3.length - (intOf j).toNat)
          case atStart => exact ⟨0, -1, -1, Nat.zero_le _, rfl, rfl, rfl, Idx.start _ _, Idx.start _ _, by omega, by omega, by omega, by omega, Chg.refl _ _⟩
          case round =>
            obtain ⟨m, at_, bt, hm, rfl, rfl, rfl, hia, hib, ha1, ha2, hb1, hb2, hq⟩ := hrel
            have HIA := Lib.hid hia; have HIB := Lib.hid hib; have HQ := Lib.hid hq; clear hia hib hq
            by_cases hmt : m < l3.length
            · have c1 := HQ.out.cell HC1.out id
              have c2 := HQ.out.cell HC2.out id
              obtain ⟨ao', cap', hv', -, hcells⟩ := HI3.out.new HQ.out
              obtain ⟨b3, off3, hb, -, cz⟩ := hcells m _ (List.getElem?_eq_getElem hmt)
              cases hv'
              subst hb
              clear hcells
              have HZ : Hid (l3[m]? = some l3[m]) := List.getElem?_eq_getElem hmt
              obtain ⟨z, hz⟩ : ∃ z, l3[m] = z := ⟨_, rfl⟩
              rw [hz] at cz HZ
              clear hz
              by_cases hzx : z = x <;> by_cases hzy : z = y
              · have e1 : (z == x) = true := by simp [hzx]
                have e2 : (z == y) = true := by simp [hzy]
                have HZX := Lib.hid hzx; have HZY := Lib.hid hzy; clear hzx hzy
                go_wp2_with fail
                go_quiet (fail)
                go_wp2_with fail
                go_quiet (fail)
                go_wp2
                go_roundw
                case rel => exact ⟨m + 1, (m : Int), (m : Int), by omega, rfl, rfl, by go_num, HIA.out.hit (by rw [HZ.out, HZX.out]), HIB.out.hit (by rw [HZ.out, HZY.out]), by omega, by omega, by omega, by omega, HQ.out.trans (Chg.drewN _ _ _)⟩
                case measure => simp [intOf] <;> omega
              · have e1 : (z == x) = true := by simp [hzx]
                have e2 : (z == y) = false := by simp [hzy]
                have HZX := Lib.hid hzx; have HZY := Lib.hid hzy; clear hzx hzy
                go_wp2_with fail
                go_quiet (fail)
                go_wp2_with fail
                go_quiet (fail)
                go_wp2
                go_roundw
                case rel => exact ⟨m + 1, (m : Int), bt, by omega, rfl, rfl, by go_num, HIA.out.hit (by rw [HZ.out, HZX.out]), HIB.out.miss HZ.out HZY.out, by omega, by omega, by omega, by omega, HQ.out.trans (Chg.drewN _ _ _)⟩
                case measure => simp [intOf] <;> omega
              · have e1 : (z == x) = false := by simp [hzx]
                have e2 : (z == y) = true := by simp [hzy]
                have HZX := Lib.hid hzx; have HZY := Lib.hid hzy; clear hzx hzy
                go_wp2_with fail
                go_quiet (fail)
                go_wp2_with fail
                go_quiet (fail)
                go_wp2
                go_roundw
                case rel => exact ⟨m + 1, at_, (m : Int), by omega, rfl, rfl, by go_num, HIA.out.miss HZ.out HZX.out, HIB.out.hit (by rw [HZ.out, HZY.out]), by omega, by omega, by omega, by omega, HQ.out.trans (Chg.drewN _ _ _)⟩
                case measure => simp [intOf] <;> omega
              · have e1 : (z == x) = false := by simp [hzx]
                have e2 : (z == y) = false := by simp [hzy]
                have HZX := Lib.hid hzx; have HZY := Lib.hid hzy; clear hzx hzy
                go_wp2_with fail
                go_quiet (fail)
                go_wp2_with fail
                go_quiet (fail)
                go_wp2
                go_roundw
                case rel => exact ⟨m + 1, at_, bt, by omega, rfl, rfl, by go_num, HIA.out.miss HZ.out HZX.out, HIB.out.miss HZ.out HZY.out, by omega, by omega, by omega, by omega, HQ.out.trans (Chg.drewN _ _ _)⟩
                case measure => simp [intOf] <;> omega
            · have hme : m = l3.length := by omega
              have hia := HIA.out; have hib := HIB.out
              rw [hme] at hia hib
              obtain ⟨i, hi, rfl⟩ := hia.found (HG3.out.2.1.whole HG3.out.2.2 (mem_nums.2 ⟨_, HXY.out, .inl rfl⟩))
              obtain ⟨j, hj, rfl⟩ := hib.found (HG3.out.2.1.whole HG3.out.2.2 (mem_nums.2 ⟨_, HXY.out, .inr rfl⟩))
              have hji := HG3.out.2.1.right HXY.out hi hj
              clear hia hib hi hj HIA HIB
              go_wp2
              go_roundw
              case rel => exact ⟨k + 1, by omega, by go_num, ⟨_, HI3.out.new HQ.out⟩, HC.out.trans HQ.out⟩
              case measure => simp [intOf] <;> omega
        · have HNU := Lib.hid (numbers_any (HP.out.new HC.out) hl)
          have hnl : l3.length = (nums ps).length := HG3.out.2.2
          have HNL := Lib.hid hnl; clear hnl
          go_wp2_with (first
            | (go_at_call 11; refine HNU.out.mono ?_; rintro e w' ⟨v5, rfl, ho5, hc⟩; obtain ⟨ao5, cap5, rfl⟩ := owned_slice ho5; rw [← HNL.out]; replace HC := Lib.hid (HC.out.trans hc); clear ho5 hc)
            | (go_at_call 7; refine (awake_any _).mono ?_; rintro e w' ⟨rfl, hc⟩; replace HC := Lib.hid (HC.out.trans hc); clear hc))
          go_ret
          exact ⟨rfl, HC.out⟩
end Go.Proofs.Ytochkamjfmdmoaa
