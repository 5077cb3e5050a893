/- Walks: Numbers, Victim, Order (the reference's). -/
import Derived.Test.YtochkamjfmdmoaaW3
import Derived.Test.YtochkamjfmdmoaaSl2
namespace Go.Proofs.Ytochkamjfmdmoaa
open Go.RowKit

def IntsPost (w : World) (l : List Int) (e : Ending) (w' : World) : Prop :=
  ∃ v', e = .returned v' ∧ w'.ownsRow w.heap.size 3 1 v' l.length (ints l) ∧ Chg (fun _ => False) w w'

def numStep (l : List Int) (p : Int × Int) : List Int := ins (ins l p.1) p.2
def midNum (l : List Int) (x y : Int) : Nat → List Int
  | 0 => l
  | 1 => ins l x
  | _ => ins (ins l x) y
theorem length_midNum (l : List Int) (x y : Int) (k : Nat) : (midNum l x y k).length ≤ l.length + 2 := by
  have h1 := length_ins l x
  have h2 := length_ins (ins l x) y
  match k with
  | 0 => simp [midNum]
  | 1 => simp only [midNum]; omega
  | k + 2 => simp only [midNum]; omega
theorem nums_take_len (ps : List (Int × Int)) (k : Nat) : (nums (ps.take k)).length ≤ 2 * k := by
  have := length_nums (ps.take k)
  have := List.length_take_le k ps
  omega
theorem ins_split {l : List Int} {n : Int} {j : Nat} (hn : n ∉ l) (h1 : ∀ x ∈ l.take j, x < n) (h2 : ∀ x, l[j]? = some x → ¬ x < n) : ins l n = l.take j ++ [n] ++ l.drop j := by
  have ht : l.takeWhile (fun x => decide (x < n)) = l.take j ∧ l.dropWhile (fun x => decide (x < n)) = l.drop j := by
    clear hn
    induction j generalizing l with
    | zero =>
      cases l with
      | nil => simp
      | cons a r =>
        have := h2 a rfl
        simp [this]
    | succ j ih =>
      cases l with
      | nil => simp
      | cons a r =>
        have ha : a < n := h1 a (by simp)
        have := ih (l := r) (fun x hx => h1 x (by simp [hx])) (fun x hx => h2 x (by simpa using hx))
        simp [ha, this]
  unfold ins
  rw [if_neg hn, ht.1, ht.2]
  simp

set_option maxHeartbeats 400000 in
theorem numbers_any {w : World} {v : Value} {ps : List (Int × Int)} {B : Nat} (hp : PairsAt w B v ps) (hl : ps.length ≤ 1000) :
    Calls Try.prog 11 #[v] w (IntsPost w (nums ps)) := by
  obtain ⟨ao, cap, rfl, -⟩ := id hp
  have HP := Lib.hid hp; clear hp
  go_enter Try.func11, Try.ntmps11
  go_wp2
  go_loopw [3, 4] (fun v i wr => ∃ k : Nat, k ≤ ps.length ∧ i = .int .i64 k ∧ wr.ownsRow w.heap.size 3 1 v (nums (ps.take k)).length (ints (nums (ps.take k))) ∧ Chg (fun _ => False) w wr) (fun _ i _ => ps.length - (intOf i).toNat)
  case atStart => exact ⟨0, Nat.zero_le _, rfl, World.ownsRow_nil _ _ _ _, Chg.refl _ _⟩
  case round =>
    obtain ⟨k, hk, rfl, hown, hc⟩ := hrel
    have hkl := nums_take_len ps k
    have HO := Lib.hid hown; have HC := Lib.hid hc; clear hown hc
    by_cases hlt : k < ps.length
    · obtain ⟨ao', cap', hv', hcells⟩ := HP.out
      obtain ⟨b, off, rfl, hbB, c1, c2⟩ := hcells k _ (List.getElem?_eq_getElem hlt)
      cases hv'
      clear hcells
      obtain ⟨⟨x, y⟩, hx⟩ : ∃ x, ps[k] = x := ⟨_, rfl⟩
      rw [hx] at c1 c2
      simp only at c1 c2
      have C1 := Lib.hid c1; have C2 := Lib.hid c2; clear c1 c2
      have E : Hid (nums (ps.take (k+1)) = midNum (nums (ps.take k)) x y 2) := by
        show _ = _
        rw [List.take_succ_eq_append_getElem hlt, hx]
        unfold nums
        rw [List.foldl_append]
        rfl
      clear hx
      generalize nums (ps.take k) = q at *
      go_wp2
      obtain ⟨wo, rfl⟩ : ∃ wo : World, wo = wr := ⟨_, rfl⟩
      go_loopw [3, 5] (fun v i wr => ∃ j : Nat, j ≤ 2 ∧ i = .int .i64 j ∧ wr.ownsRow w.heap.size 3 1 v (midNum q x y j).length (ints (midNum q x y j)) ∧ Chg (fun _ => False) w wr) (fun _ i _ => 2 - (intOf i).toNat)
      case atStart => exact ⟨0, Nat.zero_le _, rfl, HO.out, HC.out⟩
      case round =>
        clear HO HC
        obtain ⟨j, hj, rfl, hown, hc⟩ := hrel
        have hkl2 := length_midNum q x y j
        have HO := Lib.hid hown; have HC := Lib.hid hc; clear hown hc
        by_cases hj2 : j < 2
        · obtain ⟨z, cz, E2⟩ : ∃ z, wr.cell? ⟨b, off + k * 2 + j, none⟩ = some (.int .i64 z) ∧ Hid (midNum q x y (j+1) = ins (midNum q x y j) z) := by
            have hj' : j = 0 ∨ j = 1 := by omega
            rcases hj' with rfl | rfl
            · exact ⟨x, HC.out.cell C1.out id, rfl⟩
            · exact ⟨y, HC.out.cell C2.out id, rfl⟩
          generalize midNum q x y j = m at *
          have hin1 : Calls Try.prog 23 #[u3, .int .i64 z] wr (BoolPost wr (decide (z ∈ m))) := in_any z (owned_ints HO.out (Nat.le_refl _)) (by omega)
          have HIN := Lib.hid hin1; clear hin1
          by_cases hzm : z ∈ m
          · have HZ := Lib.hid hzm; clear hzm
            go_wp2_with (first | (go_at_call 23; refine (HIN.out).mono ?_; (rw [show decide (z ∈ m) = true from by simp [HZ.out]]); rintro e w' ⟨rfl, rfl⟩))
            go_roundw
            case rel => exact ⟨j + 1, by omega, by go_num, by rw [E2.out, ins, if_pos HZ.out]; exact HO.out, HC.out⟩
            case measure => simp [intOf]; omega
          · have HZ := Lib.hid hzm; clear hzm
            go_wp2_with (first | (go_at_call 23; refine (HIN.out).mono ?_; (rw [show decide (z ∈ m) = false from by simp [HZ.out]]); rintro e w' ⟨rfl, rfl⟩))
            obtain ⟨wo2, rfl⟩ : ∃ wo : World, wo = wr := ⟨_, rfl⟩
            obtain ⟨mo, mcap, rfl, -, -⟩ := owned_ints HO.out (Nat.le_refl _)
            go_loopw [7, 8] (fun v i wr => ∃ t : Nat, t ≤ m.length ∧ i = .int .i64 t ∧ wr.ownsRow wo2.heap.size 3 1 v t (ints (m.take t)) ∧ Chg (fun _ => False) wo2 wr ∧ (∀ x ∈ m.take t, x < z)) (fun _ i _ => m.length - (intOf i).toNat)
            case atStart => exact ⟨0, Nat.zero_le _, rfl, World.ownsRow_nil _ _ _ _, Chg.refl _ _, by simp⟩
            case round =>
              obtain ⟨t, ht, rfl, hown2, hc2, hall⟩ := hrel
              have HO2 := Lib.hid hown2; have HC2 := Lib.hid hc2; have HA := Lib.hid hall; clear hown2 hc2 hall
              have HM := Lib.hid (owned_ints (B := wo2.heap.size) HO.out (Nat.le_refl _))
              -- what stands behind the loop
              by_cases htl : t < m.length
              · obtain ⟨ao', cap', hv', -, hcells⟩ := HM.out
                obtain ⟨b', off', rfl, hbB', c1⟩ := hcells t _ (List.getElem?_eq_getElem htl)
                cases hv'
                clear hcells
                obtain ⟨u, hu⟩ : ∃ x, m[t] = x := ⟨_, rfl⟩
                rw [hu] at c1
                have c1' := HC2.out.cell c1 id
                clear c1
                have HU := Lib.hid hu; clear hu
                by_cases huz : u < z
                · have E3 : Hid (ints (m.take (t+1)) = ints (m.take t) ++ [.int .i64 u]) := by show _ = _; rw [List.take_succ_eq_append_getElem htl, ints_append, HU.out]; rfl
                  go_wp2_with (at_builtin; refine wpList_app1 rfl _ _ 24 rfl Try.underlying24 Try.info3 rfl (by decide) (by decide) [.int .i64 u] rfl rfl HO2.out rfl rfl (by intro u hu; simp at hu; subst hu; rfl) (by omega) HC2.out.size ?_; intro v' w1 ho1 hc1; have HO1 := Lib.hid ho1; have HC1 := Lib.hid hc1; clear ho1 hc1)
                  go_roundw
                  case rel => exact ⟨t + 1, by omega, by go_num, by rw [E3.out]; exact HO1.out, HC2.out.trans' HC1.out (fun i hi h => by have := h.1; omega), by
                    rw [List.take_succ_eq_append_getElem htl, HU.out]
                    intro a ha
                    rcases List.mem_append.1 ha with ha | ha
                    · exact HA.out a ha
                    · simp at ha; subst ha; exact huz⟩
                  case measure => simp [intOf]; omega
                · go_wp2_with (first
                    | (at_builtin; refine wpList_app1 rfl (.tmp 49) (.tmp 51) 24 rfl Try.underlying24 Try.info3 rfl (by decide) (by decide) [.int .i64 z] rfl rfl HO2.out rfl rfl (by intro u hu; simp at hu; subst hu; rfl) (by omega) HC2.out.size ?_; intro v' w1 ho1 hc1; have HO1 := Lib.hid ho1; have HC1 := Lib.hid hc1; have HM1 := Lib.hid (HM.out.chg (HC2.out.trans' hc1 (fun i hi h => absurd h.1 (by omega))) (fun _ _ => id)); clear ho1 hc1)
                    | (refine wpList_tail (o := ⟨some 56, _, _, _, _, _⟩) rfl _ _ 24 rfl Try.underlying24 Try.info3 rfl rfl HM1.out ht ?_; intro v2 hv2; have HV2 := Lib.hid hv2; clear hv2)
                    | (at_builtin; refine wpList_appInts rfl (.tmp 53) (.tmp 56) 24 rfl Try.underlying24 Try.info3 rfl (by decide) rfl HO1.out rfl HV2.out (by have := List.length_drop (i := t) (l := m); omega) (by have := HC2.out.size; have := HC1.out.size; omega) ?_; intro v3 w3 ho3 hc3; have HO3 := Lib.hid ho3; have HC3 := Lib.hid hc3; clear ho3 hc3))
                  go_roundw
                  case rel =>
                    have hsp : ins m z = m.take t ++ [z] ++ m.drop t := ins_split HZ.out HA.out (fun x hx => by rw [List.getElem?_eq_getElem htl, HU.out] at hx; cases hx; exact huz)
                    have hlen : (ins m z).length = t + 1 + (m.drop t).length := by rw [hsp]; simp; omega
                    have hints : ints (ins m z) = ints (m.take t) ++ [.int .i64 z] ++ ints (m.drop t) := by rw [hsp, ints_append, ints_append]; rfl
                    exact ⟨j + 1, by omega, by go_num, by rw [E2.out, hlen, hints]; exact ownsRow_base HO3.out HC.out.size,
                      HC.out.trans ((HC2.out.trans' HC1.out (fun i hi h => absurd h.1 (by omega))).trans' HC3.out (fun i hi h => absurd h.1 (by omega)))⟩
                  case measure => simp [intOf]; omega
              · go_wp2_with (first
                  | (at_builtin; refine wpList_app1 rfl (.tmp 49) (.tmp 51) 24 rfl Try.underlying24 Try.info3 rfl (by decide) (by decide) [.int .i64 z] rfl rfl HO2.out rfl rfl (by intro u hu; simp at hu; subst hu; rfl) (by omega) HC2.out.size ?_; intro v' w1 ho1 hc1; have HO1 := Lib.hid ho1; have HC1 := Lib.hid hc1; have HM1 := Lib.hid (HM.out.chg (HC2.out.trans' hc1 (fun i hi h => absurd h.1 (by omega))) (fun _ _ => id)); clear ho1 hc1)
                  | (refine wpList_tail (o := ⟨some 56, _, _, _, _, _⟩) rfl _ _ 24 rfl Try.underlying24 Try.info3 rfl rfl HM1.out ht ?_; intro v2 hv2; have HV2 := Lib.hid hv2; clear hv2)
                  | (at_builtin; refine wpList_appInts rfl (.tmp 53) (.tmp 56) 24 rfl Try.underlying24 Try.info3 rfl (by decide) rfl HO1.out rfl HV2.out (by have := List.length_drop (i := t) (l := m); omega) (by have := HC2.out.size; have := HC1.out.size; omega) ?_; intro v3 w3 ho3 hc3; have HO3 := Lib.hid ho3; have HC3 := Lib.hid hc3; clear ho3 hc3))
                go_roundw
                case rel =>
                  have hsp : ins m z = m.take t ++ [z] ++ m.drop t := ins_split HZ.out HA.out (fun x hx => by rw [List.getElem?_eq_none (by omega)] at hx; cases hx)
                  have hlen : (ins m z).length = t + 1 + (m.drop t).length := by rw [hsp]; simp; omega
                  have hints : ints (ins m z) = ints (m.take t) ++ [.int .i64 z] ++ ints (m.drop t) := by rw [hsp, ints_append, ints_append]; rfl
                  exact ⟨j + 1, by omega, by go_num, by rw [E2.out, hlen, hints]; exact ownsRow_base HO3.out HC.out.size,
                    HC.out.trans ((HC2.out.trans' HC1.out (fun i hi h => absurd h.1 (by omega))).trans' HC3.out (fun i hi h => absurd h.1 (by omega)))⟩
                case measure => simp [intOf]; omega
        · go_wp2
          go_roundw
          have : j = 2 := by omega
          subst this
          case rel => exact ⟨k + 1, by omega, by go_num, by rw [E.out]; exact HO.out, HC.out⟩
          case measure => simp [intOf]; omega
    · go_wp2
      go_ret
      have hkk : ps.take k = ps := List.take_of_length_le (by omega)
      refine ⟨_, rfl, ?_, HC.out⟩
      have := HO.out
      rwa [hkk] at this

end Go.Proofs.Ytochkamjfmdmoaa
