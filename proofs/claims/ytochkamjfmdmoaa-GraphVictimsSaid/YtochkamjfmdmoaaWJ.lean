/- Walks: GraphVictims. -/
import Derived.Test.YtochkamjfmdmoaaWH
namespace Go.Proofs.Ytochkamjfmdmoaa
open Go.RowKit

def IntP (w : World) (l : List Int) (e : Ending) (w' : World) : Prop := ∃ v, e = .returned v ∧ IntsAt w' w'.heap.size v l ∧ Chg (fun _ => False) w w'
theorem numbers_p {w : World} {v : Value} {ps : List (Int × Int)} {B : Nat} (hp : PairsAt w B v ps) (hl : ps.length ≤ 1000) : Calls Try.prog 11 #[v] w (IntP w (nums ps)) := by
  refine (numbers_any hp hl).mono ?_
  rintro e w' ⟨v', rfl, ho, hc⟩
  exact ⟨v', rfl, owned_ints ho (Nat.le_refl _), hc⟩
def PairP (w : World) (ps : List (Int × Int)) (e : Ending) (w' : World) : Prop := ∃ v, e = .returned v ∧ PairsAt w' w'.heap.size v ps ∧ Chg (fun _ => False) w w'
theorem without_p {w : World} {v : Value} {ps : List (Int × Int)} {B : Nat} (n : Int) (hp : PairsAt w B v ps) (hl : ps.length ≤ 1000) : Calls Try.prog 17 #[v, .int .i64 n] w (PairP w (withoutL ps n)) := by
  refine (without_any n hp hl).mono ?_
  rintro e w' ⟨v', rfl, ho, hc⟩
  exact ⟨v', rfl, owned_pairs ho (Nat.le_refl _), hc⟩

theorem nums_nodup (ps : List (Int × Int)) : (nums ps).Nodup := (nums_sorted ps).imp (fun h e => by subst e; omega)
theorem without_less {ps : List (Int × Int)} {n : Int} (hn : n ∈ nums ps) : (nums (withoutL ps n)).length + 1 ≤ (nums ps).length := by
  have hx : ∀ x ∈ nums (withoutL ps n), x ∈ nums ps ∧ x ≠ n := by
    intro x hx
    obtain ⟨p, hp, h⟩ := mem_nums.1 hx
    unfold withoutL at hp
    obtain ⟨h1, h2⟩ := List.mem_filter.1 hp
    simp at h2
    refine ⟨mem_nums.2 ⟨p, h1, h⟩, fun e => ?_⟩
    rcases h with h | h
    · exact h2.1 (h.trans e)
    · exact h2.2 (h.trans e)
  have := nodup_length_le (l := n :: nums (withoutL ps n)) (m := nums ps) (List.nodup_cons.2 ⟨fun e => (hx n e).2 rfl, nums_nodup _⟩) (fun y hy => by
    rcases List.mem_cons.1 hy with rfl | hy
    · exact hn
    · exact (hx y hy).1)
  simpa using this
theorem without_len (ps : List (Int × Int)) (n : Int) : (withoutL ps n).length ≤ ps.length := List.length_filter_le _ _

set_option maxHeartbeats 1000000 in
theorem victims_any {w : World} {v : Value} {ps : List (Int × Int)} {B : Nat} (hp : PairsAt w B v ps) : Calls Try.prog 5 #[v] w (BoolPost' w true) := by
  obtain ⟨ao, cap, rfl, -⟩ := id hp
  have HP := Lib.hid hp; clear hp
  by_cases hbig : 60 < ps.length
  · have HA := Lib.hid (awake_any w)
    go_enter Try.func5, Try.ntmps5
    go_wp2_with (go_at_call 7; refine HA.out.mono ?_; rintro e w1 ⟨rfl, hc⟩; have HC := Lib.hid hc; clear hc)
    go_ret
    exact ⟨rfl, HC.out⟩
  · have hl : ps.length ≤ 60 := by omega
    have hln := length_nums ps
    go_enter Try.func5, Try.ntmps5
    go_wp2_with (go_at_call 9; refine (own_p HP.out (by omega)).mono ?_; rintro e w' ⟨vOwn, rfl, hp1, hc⟩; have HC := Lib.hid hc; have HP1 := Lib.hid hp1; clear hp1 hc)
    go_loopw [3, 4] (fun r i wr => ∃ (k B : Nat) (q : List (Int × Int)), i = .int .i64 k ∧ (nums q).length + k ≤ 120 ∧ q.length ≤ 60 ∧ PairsAt wr B r q ∧ Chg (fun _ => False) w wr) (fun _ i _ => 121 - (intOf i).toNat)
    case atStart => exact ⟨0, _, ps, rfl, by omega, hl, HP1.out, HC.out⟩
    case round =>
      clear HP1 HC HP hl hbig hln
      obtain ⟨k, B1, q, rfl, hnk, hql, hpq, hc⟩ := hrel
      have HPQ := Lib.hid hpq; have HC := Lib.hid hc; clear hpq hc
      have hq1 : q.length ≤ 1000 := by omega
      have hk1 : (k : Int) ≤ 120 := by omega
      have hnl : (nums q).length ≤ 120 := by omega
      have HNK := Lib.hid hnk; have HQL := Lib.hid hql; clear hnk hql
      have HK := Lib.hid (Chg.refl (fun _ => False) wr)
      go_wp2_with (first
        | (go_at_call 9; refine (own_p (HPQ.out.new HK.out) hq1).mono ?_; rintro e w' ⟨v1, rfl, hp1, hc⟩; replace HK := Lib.hid (HK.out.trans hc); have HP1 := Lib.hid hp1; clear hp1 hc)
        | (go_at_call 10; refine (victim_any HP1.out hq1).mono ?_; rintro e w' ⟨n, is, rfl, hv, hc⟩; replace HK := Lib.hid (HK.out.trans hc); have HV := Lib.hid hv; clear hv hc HP1)
        | (go_at_call 11; refine (numbers_p (HPQ.out.new HK.out) hq1).mono ?_; rintro e w2 ⟨v2, rfl, hi, hc⟩; obtain ⟨ia, icap, rfl, -⟩ := id hi; replace HK := Lib.hid (HK.out.trans hc); have HI := Lib.hid hi; clear hi hc))
      · have hno : (!is) = true := by assumption
        rw [hno]
        have HVF := Lib.hid (HV.out.2 (by simpa using hno))
        clear HV
        go_loopw [8] (fun i wq => ∃ (j B : Nat), j ≤ (nums q).length ∧ i = .int .i64 j ∧ IntsAt wq B (.slice ia (nums q).length icap) (nums q) ∧ Chg (fun _ => False) wr wq) (fun i _ => (nums q).length - (intOf i).toNat)
        case atStart => exact ⟨0, _, Nat.zero_le _, rfl, HI.out, HK.out⟩
        case round =>
          obtain ⟨j, B2, hj, rfl, hi, hk⟩ := hrel
          replace HI := Lib.hid hi; replace HK := Lib.hid hk; clear hi hk
          by_cases hlt : j < (nums q).length
          · obtain ⟨ao', cap', hv', -, hcells⟩ := id HI.out
            obtain ⟨b, off, hb, -, cx⟩ := hcells j _ (List.getElem?_eq_getElem hlt)
            cases hv'
            subst hb
            clear hcells
            obtain ⟨x, hx⟩ : ∃ x, (nums q)[j] = x := ⟨_, rfl⟩
            rw [hx] at cx
            clear hx
            go_wp2_with fail
            have HRN : Hid (¬ Tr q x x) := (show ¬ _ from HVF.out.2 x)
            obtain ⟨W, hW⟩ : ∃ W, wr.drew = W := ⟨_, rfl⟩
            have HKW : Hid (Chg (fun _ => False) wr W) := (show Chg _ _ _ from by rw [← hW]; exact Chg.drew _ _)
            have HPW := Lib.hid ((HPQ.out.new HK.out).new HKW.out)
            have CX := Lib.hid (HKW.out.cell cx id)
            have HW := Lib.hid hW; clear hW
            obtain ⟨F, hF⟩ : ∃ F : Bool → Bool → Bool → Bool → Bool → Bool → Bool → Value → Act, F = (fun b0 b1 b2 b3 b4 b5 b6 vo => ⟨((Value.slice ao ps.length cap) :: undef :: u2 :: u3 :: (Value.int IntKind.i64 ↑k) :: (Value.int IntKind.i64 n) :: (Value.bool is) :: (Value.slice (some { block := b, off := off }) (nums q).length icap) :: (Value.int IntKind.i64 ↑j) :: u9 :: (Value.slice ao ps.length cap) :: (Value.int IntKind.i64 ↑ps.length) :: (Value.bool (decide (60 < (ps.length : Int)))) :: undef :: (Value.slice ao ps.length cap) :: vOwn :: (Value.int IntKind.i64 ↑k) :: (Value.bool true) :: u18 :: u19 :: (Value.tuple #[Value.int IntKind.i64 n, Value.bool is]) :: u3 :: v1 :: (Value.tuple #[Value.int IntKind.i64 n, Value.bool is]) :: (Value.int IntKind.i64 n) :: (Value.bool is) :: u3 :: (Value.slice (some { block := b, off := off }) (nums q).length icap) :: (Value.bool is) :: (Value.bool true) :: (Value.int IntKind.i64 ↑j) :: (Value.slice (some { block := b, off := off }) (nums q).length icap) :: (Value.int IntKind.i64 ↑(nums q).length) :: (Value.bool true) :: u34 :: u35 :: sel b0 u3 u36 :: sel b1 vo u37 :: sel b2 (Value.slice (some { block := b, off := off }) (nums q).length icap) u38 :: sel b3 (Value.int IntKind.i64 ↑j) u39 :: sel b4 (Value.pointer (some { block := b, off := off + j })) u40 :: sel b5 (Value.int IntKind.i64 x) u41 :: sel b6 (Value.bool false) u42 :: u43 :: u44 :: u45 :: u46 :: u47 :: u48 :: u49 :: u50 :: u51 :: u52 :: u53 :: u54 :: u55 :: u56 :: u57 :: u58 :: u59 :: u60 :: u61 :: u62 :: u63 :: u64 :: u65 :: u66 :: u67 :: u68 :: u69 :: u70 :: u71 :: u72 :: u73 :: u74 :: []).toArray, []⟩) := ⟨_, rfl⟩
            have HF := Lib.hid hF; clear hF
            refine wp_region_inv Try.mixed ?_ (fun L a w' => ∃ b0 b1 b2 b3 b4 b5 b6 vo, L = #[b0, b1, b2, b3, b4, b5, b6] ∧ a = F b0 b1 b2 b3 b4 b5 b6 vo ∧ Chg (fun _ => False) W w' ∧ (b1 = true → ∃ B, PairsAt w' B vo q)) ?_ ?_ ?_
            · intro i o ho
              have hi : i < 7 := by simpa using (Array.getElem?_eq_some_iff.1 ho).1
              rcases (by omega : i = 0 ∨ i = 1 ∨ i = 2 ∨ i = 3 ∨ i = 4 ∨ i = 5 ∨ i = 6) with rfl | rfl | rfl | rfl | rfl | rfl | rfl <;> (simp at ho; subst ho; simp [Region.binds])
            · refine ⟨false, false, false, false, false, false, false, undef, rfl, ?_, ?_, by simp⟩
              · rw [HF.out]; rfl
              · rw [HW.out]; exact Chg.refl _ _
            · intro L a' w' i o hI hLi ho hdep
              obtain ⟨b0, b1, b2, b3, b4, b5, b6, vo, rfl, rfl, hch, hvo⟩ := hI
              have hi : i < 7 := by simpa using (Array.getElem?_eq_some_iff.1 ho).1
              have ho' := ho
              have hL0 := hLi
              rcases (by omega : i = 0 ∨ i = 1 ∨ i = 2 ∨ i = 3 ∨ i = 4 ∨ i = 5 ∨ i = 6) with rfl | rfl | rfl | rfl | rfl | rfl | rfl <;> (simp at ho'; subst ho'; simp at hLi; subst hLi; simp [Region.binds] at hdep)
              · refine wpOp_k fun K hK => wpOp_of_wp ho rfl ?_
                rw [HF.out]
                have HCH := Lib.hid hch; have HVO := Lib.hid hvo; clear hch hvo ho hL0
                simp only [sel_false]
                go_wp2
                exact ⟨true, b1, b2, b3, b4, b5, b6, vo, rfl, by rw [HF.out]; rfl, HCH.out, HVO.out⟩
              · subst hdep
                have HCH := Lib.hid hch
                refine wpOp_k fun K hK => wpOp_of_wp ho rfl ?_
                rw [HF.out]
                clear hch hvo ho hL0
                simp only [sel_true, sel_false]
                go_wp2_with (go_at_call 9; refine (own_p (HPW.out.new HCH.out) hq1).mono ?_; rintro e w5 ⟨v5, rfl, hp5, hc⟩; have HP5 := Lib.hid hp5; have HC5 := Lib.hid (HCH.out.trans hc); clear hp5 hc)
                exact ⟨true, true, b2, b3, b4, b5, b6, v5, rfl, by rw [HF.out]; rfl, HC5.out, fun _ => ⟨_, HP5.out⟩⟩
              · refine wpOp_k fun K hK => wpOp_of_wp ho rfl ?_
                rw [HF.out]
                have HCH := Lib.hid hch; have HVO := Lib.hid hvo; clear hch hvo ho hL0
                simp only [sel_false]
                go_wp2
                exact ⟨b0, b1, true, b3, b4, b5, b6, vo, rfl, by rw [HF.out]; rfl, HCH.out, HVO.out⟩
              · refine wpOp_k fun K hK => wpOp_of_wp ho rfl ?_
                rw [HF.out]
                have HCH := Lib.hid hch; have HVO := Lib.hid hvo; clear hch hvo ho hL0
                simp only [sel_false]
                go_wp2
                exact ⟨b0, b1, b2, true, b4, b5, b6, vo, rfl, by rw [HF.out]; rfl, HCH.out, HVO.out⟩
              · obtain ⟨rfl, rfl⟩ := hdep
                refine wpOp_k fun K hK => wpOp_of_wp ho rfl ?_
                rw [HF.out]
                have HCH := Lib.hid hch; have HVO := Lib.hid hvo; clear hch hvo ho hL0
                simp only [sel_true, sel_false]
                go_wp2
                exact ⟨b0, b1, true, true, true, b5, b6, vo, rfl, by rw [HF.out]; rfl, HCH.out, HVO.out⟩
              · subst hdep
                have cx' := hch.cell CX.out id
                refine wpOp_k fun K hK => wpOp_of_wp ho rfl ?_
                rw [HF.out]
                have HCH := Lib.hid hch; have HVO := Lib.hid hvo; clear hch hvo ho hL0
                simp only [sel_true, sel_false]
                go_wp2
                exact ⟨b0, b1, b2, b3, true, true, b6, vo, rfl, by rw [HF.out]; rfl, HCH.out, HVO.out⟩
              · obtain ⟨rfl, rfl, -⟩ := hdep
                obtain ⟨B5, hp5⟩ := hvo rfl
                have HCH := Lib.hid hch; have HP5 := Lib.hid hp5
                refine wpOp_k fun K hK => wpOp_of_wp ho rfl ?_
                rw [HF.out]
                clear hch hvo hp5 ho hL0
                simp only [sel_true, sel_false]
                go_wp2_with (go_at_call 14; refine (ring_any x false ⟨(fun e => by cases e), fun e => absurd e HRN.out⟩ HP5.out hq1).mono ?_; rintro e w5 ⟨rfl, hc⟩; have HP6 := Lib.hid (HP5.out.new hc); have HC5 := Lib.hid (HCH.out.trans hc); clear hc)
                exact ⟨b0, true, b2, b3, b4, true, true, vo, rfl, by rw [HF.out]; rfl, HC5.out, fun _ => ⟨_, HP6.out⟩⟩
            · intro L a' w' hI hL
              obtain ⟨b0, b1, b2, b3, b4, b5, b6, vo, rfl, rfl, hch, hvo⟩ := hI
              have h0 : b0 = true := by simpa using hL 0 (by simp)
              have h1 : b1 = true := by simpa using hL 1 (by simp)
              have h2 : b2 = true := by simpa using hL 2 (by simp)
              have h3 : b3 = true := by simpa using hL 3 (by simp)
              have h4 : b4 = true := by simpa using hL 4 (by simp)
              have h5 : b5 = true := by simpa using hL 5 (by simp)
              have h6 : b6 = true := by simpa using hL 6 (by simp)
              subst h0; subst h1; subst h2; subst h3; subst h4; subst h5; subst h6
              rw [HF.out]
              have HCH := Lib.hid hch; clear hch hvo hL
              simp only [sel_true]
              go_wp2
              go_roundw
              case rel => exact ⟨j + 1, _, by omega, by go_num, (HI.out.new HKW.out).new HCH.out, (HK.out.trans HKW.out).trans HCH.out⟩
              case measure => simp [intOf] <;> omega
          · have hn0 : (n == 0) = true := by simp [HVF.out.1]
            go_wp2_with (go_at_call 7; refine (awake_any _).mono ?_; rintro e w' ⟨rfl, hc⟩; replace HK := Lib.hid (HK.out.trans hc); clear hc)
            go_ret
            exact ⟨rfl, HC.out.trans HK.out⟩
      · have hno : (!is) = false := by assumption
        rw [hno]
        have HVT := Lib.hid (HV.out.1 (by simpa using hno))
        clear HV
        go_wp2_with (go_at_call 15; refine (refRing_any n true ⟨fun _ => HVT.out.1, fun _ => rfl⟩ (HPQ.out.new HK.out) hq1).mono ?_; rintro e w3 ⟨rfl, hc⟩; replace HI := Lib.hid (HI.out.new hc); replace HK := Lib.hid (HK.out.trans hc); clear hc)
        go_loopw [9] (fun i wq => ∃ (j B : Nat), j ≤ (nums q).length ∧ i = .int .i64 j ∧ IntsAt wq B (.slice ia (nums q).length icap) (nums q) ∧ Chg (fun _ => False) wr wq) (fun i _ => (nums q).length - (intOf i).toNat)
        case atStart => exact ⟨0, _, Nat.zero_le _, rfl, HI.out, HK.out⟩
        case round =>
          obtain ⟨j, B2, hj, rfl, hi, hk⟩ := hrel
          replace HI := Lib.hid hi; replace HK := Lib.hid hk; clear hi hk
          by_cases hlt : j < (nums q).length
          · obtain ⟨ao', cap', hv', -, hcells⟩ := id HI.out
            obtain ⟨b, off, hb, -, cx⟩ := hcells j _ (List.getElem?_eq_getElem hlt)
            cases hv'
            subst hb
            clear hcells
            obtain ⟨x, hx⟩ : ∃ x, (nums q)[j] = x := ⟨_, rfl⟩
            rw [hx] at cx
            clear hx
            by_cases hgt : n < x
            · have HNX : Hid (¬ Tr q x x) := (show ¬ _ from fun e => by have := HVT.out.2 x e; omega)
              go_wp2_with (go_at_call 15; refine (refRing_any x false ⟨(fun e => by cases e), fun e => absurd e HNX.out⟩ (HPQ.out.new HK.out) hq1).mono ?_; rintro e w3 ⟨rfl, hc⟩; replace HI := Lib.hid (HI.out.new hc); replace HK := Lib.hid (HK.out.trans hc); clear hc)
              go_roundw
              case rel => exact ⟨j + 1, _, by omega, by go_num, HI.out, HK.out⟩
              case measure => simp [intOf] <;> omega
            · go_wp2
              go_roundw
              case rel => exact ⟨j + 1, _, by omega, by go_num, HI.out, HK.out⟩
              case measure => simp [intOf] <;> omega
          · have HNL := Lib.hid (without_less (mem_nums.2 HVT.out.1.isNum))
            have HWL := Lib.hid (without_len q n)
            go_wp2_with (go_at_call 17; refine (without_p n (HPQ.out.new HK.out) hq1).mono ?_; rintro e w3 ⟨v3, rfl, hp3, hc⟩; have HP3 := Lib.hid hp3; replace HK := Lib.hid (HK.out.trans hc); clear hp3 hc)
            go_roundw
            case rel => exact ⟨k + 1, _, withoutL q n, by go_num, by have := HNL.out; have := HNK.out; omega, by have := HWL.out; have := HQL.out; omega, HP3.out, HC.out.trans HK.out⟩
            case measure => have := HNK.out; simp [intOf] <;> omega
end Go.Proofs.Ytochkamjfmdmoaa
