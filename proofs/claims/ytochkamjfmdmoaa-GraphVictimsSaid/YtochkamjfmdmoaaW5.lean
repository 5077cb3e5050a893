/- Walks: Victim, Order (the reference's). -/
import Derived.Test.YtochkamjfmdmoaaW4
namespace Go.Proofs.Ytochkamjfmdmoaa
open Go.RowKit

def VictimPost (w : World) (ps : List (Int × Int)) (e : Ending) (w' : World) : Prop :=
  ∃ n is, e = .returned (.tuple #[.int .i64 n, .bool is]) ∧ IsVictim ps n is ∧ Chg (fun _ => False) w w'

theorem refVictim_any {w : World} {v : Value} {ps : List (Int × Int)} {B : Nat} (hp : PairsAt w B v ps) (hl : ps.length ≤ 1000) :
    Calls Try.prog 12 #[v] w (VictimPost w ps) := by
  have HP := Lib.hid hp; clear hp
  go_enter Try.func12, Try.ntmps12
  go_wp2_with fail
  refine (numbers_any HP.out hl).mono ?_
  rintro e w' ⟨v', rfl, ho, hc⟩
  have hnl := length_nums ps
  have HN : Hid (∀ x, Tr ps x x → x ∈ nums ps) := fun x hx => mem_nums.2 hx.isNum
  have HS := Lib.hid (nums_sorted ps)
  have HO := Lib.hid (owned_ints (B := w'.heap.size) ho (Nat.le_refl _)); have HC := Lib.hid hc; clear ho hc
  generalize nums ps = all at *
  obtain ⟨ao, cap, rfl, -, -⟩ := id HO.out
  go_wp2
  go_loopw [5] (fun i wr => ∃ k : Nat, k ≤ all.length ∧ i = .int .i64 ((k : Int) - 1) ∧ Chg (fun _ => False) w' wr ∧ ∀ x ∈ all.drop k, ¬ Tr ps x x) (fun i _ => ((intOf i) + 1).toNat)
  case atStart => exact ⟨all.length, Nat.le_refl _, rfl, Chg.refl _ _, by simp⟩
  case round =>
    obtain ⟨k, hk, rfl, hc2, hno⟩ := hrel
    have HC2 := Lib.hid hc2; have HNO := Lib.hid hno; clear hc2 hno
    cases k with
    | zero =>
      go_wp2
      go_ret2
      refine ⟨0, false, rfl, ⟨by simp, fun _ => ⟨rfl, fun x hx => ?_⟩⟩, HC.out.trans HC2.out⟩
      exact HNO.out x (by simpa using HN.out x hx) hx
    | succ k =>
      have hk' : k < all.length := by omega
      have e0 : ((k + 1 : Nat) : Int) - 1 = (k : Int) := by omega
      rw [e0]
      clear e0
      obtain ⟨ao', cap', hv', -, hcells⟩ := HO.out
      obtain ⟨b, off, rfl, hbB, c1⟩ := hcells k _ (List.getElem?_eq_getElem hk')
      cases hv'
      clear hcells
      obtain ⟨x, hx⟩ : ∃ x, all[k] = x := ⟨_, rfl⟩
      rw [hx] at c1
      have c1' := HC2.out.cell c1 id
      clear c1
      have HX := Lib.hid hx; clear hx
      have hr : Calls Try.prog 15 #[v, .int .i64 x] wr (BoolPost' wr (ringB ps x)) := refRing_any x _ ringB_iff (HP.out.new (HC.out.trans HC2.out)) hl
      have HR := Lib.hid hr; clear hr
      cases hq : ringB ps x
      · have HQ := Lib.hid (ringB_false.1 hq)
        rw [hq] at HR
        clear hq
        go_wp2_with (go_at_call 15; refine HR.out.mono ?_; rintro e w2 ⟨rfl, hc3⟩; have HC3 := Lib.hid hc3; clear hc3)
        go_roundw
        case rel => exact ⟨k, by omega, by first | rfl | go_num, HC2.out.trans HC3.out, by
          rw [List.drop_eq_getElem_cons hk', HX.out]
          intro y hy
          rcases List.mem_cons.1 hy with rfl | hy
          · exact HQ.out
          · exact HNO.out y hy⟩
        case measure => simp [intOf] <;> omega
      · have HQ := Lib.hid (ringB_iff.1 hq)
        rw [hq] at HR
        clear hq
        have HCX : Hid (∀ w2, Chg (fun _ => False) wr w2 → w2.cell? ⟨b, off + k, none⟩ = some (.int .i64 x)) := fun w2 h => h.cell c1' id
        go_wp2_with (go_at_call 15; refine HR.out.mono ?_; rintro e w2 ⟨rfl, hc3⟩; have HC3 := Lib.hid hc3; have c2 := HCX.out w2 hc3; clear hc3)
        go_ret2
        refine ⟨x, true, rfl, ⟨fun _ => ⟨HQ.out, fun y hy => ?_⟩, by simp⟩, HC.out.trans (HC2.out.trans HC3.out)⟩
        have hm := HN.out y hy
        rw [← List.take_append_drop k all, List.mem_append, List.drop_eq_getElem_cons hk', HX.out] at hm
        rcases hm with hm | hm
        · have hs := HS.out
          rw [← List.take_append_drop k all, List.pairwise_append, List.drop_eq_getElem_cons hk', HX.out] at hs
          have := hs.2.2 y hm x (by simp)
          omega
        · rcases List.mem_cons.1 hm with rfl | hm
          · omega
          · exact absurd hy (HNO.out y hm)


def OrderPost (w : World) (ps : List (Int × Int)) (e : Ending) (w' : World) : Prop :=
  ∃ v l is, e = .returned (.tuple #[v, .bool is]) ∧ w'.ownsRow w.heap.size 3 1 v l.length (ints l) ∧ l.length ≤ 2000 ∧ Chg (fun _ => False) w w' ∧
    (is = false → l = [] ∧ ∃ x, Tr ps x x) ∧ (is = true → (∀ x, ¬ Tr ps x x) ∧ GInv ps l ∧ l.length = (nums ps).length)

set_option maxHeartbeats 400000 in
theorem refOrder_any {w : World} {v : Value} {ps : List (Int × Int)} {B : Nat} (hp : PairsAt w B v ps) (hl : ps.length ≤ 1000) :
    Calls Try.prog 13 #[v] w (OrderPost w ps) := by
  have HP := Lib.hid hp; clear hp
  go_enter Try.func13, Try.ntmps13
  go_wp2_with fail
  refine (refVictim_any HP.out hl).mono ?_
  rintro e w0 ⟨vn, is, rfl, hv, hc0⟩
  have HV := Lib.hid hv; have HC0 := Lib.hid hc0; clear hv hc0
  cases is
  · have HAC := Lib.hid (HV.out.2 rfl).2
    go_wp2_with fail
    refine (numbers_any (HP.out.new HC0.out) hl).mono ?_
    rintro e w' ⟨v', rfl, ho, hc⟩
    have hnl := length_nums ps
    have HO := Lib.hid (owned_ints (B := w'.heap.size) ho (Nat.le_refl _)); have HC := Lib.hid (HC0.out.trans hc); clear ho hc
    obtain ⟨all, hall⟩ : ∃ all, nums ps = all := ⟨_, rfl⟩
    rw [hall] at HO hnl
    have HALL := Lib.hid hall; clear hall
    obtain ⟨ao, cap, rfl, -, -⟩ := id HO.out
    go_wp2
    go_loopg [7] (all.length + 1) (fun g u wr => ∃ out : List Int, wr.ownsRow w'.heap.size 3 1 u out.length (ints out) ∧ Chg (fun _ => False) w' wr ∧ GInv ps out ∧ all.length - out.length < g)
    case atStart => exact ⟨[], World.ownsRow_nil _ _ _ _, Chg.refl _ _, GInv.nil ps, by simp⟩
    case round =>
      obtain ⟨out, ho1, hc1, hg, hm⟩ := hrel
      have hol : out.length ≤ all.length := by rw [← HALL.out]; exact hg.len
      have HO1 := Lib.hid ho1; have HC1 := Lib.hid hc1; have HG := Lib.hid hg; clear ho1 hc1 hg
      have HOI := Lib.hid (owned_ints (B := wr.heap.size) HO1.out (Nat.le_refl _))
      obtain ⟨oo, ocap, rfl, -, -⟩ := id HOI.out
      by_cases hlt : out.length < all.length
      · obtain ⟨x, hx⟩ := pick_exists (done := out) HAC.out (HG.out.missing (by rw [HALL.out]; exact hlt))
        have HX := Lib.hid hx; clear hx
        obtain ⟨at_, hat⟩ := List.getElem?_of_mem (pick_some HX.out).1
        rw [HALL.out] at hat
        have hatl := (List.getElem?_eq_some_iff.1 hat).1
        have HAT := Lib.hid hat; clear hat
        go_wp2
        go_loop [7, 8] (fun u i => ∃ k : Nat, k ≤ at_ ∧ i = .int .i64 k ∧ u = .slice oo out.length ocap) (fun _ i => all.length - (intOf i).toNat)
        case atStart => exact ⟨0, Nat.zero_le _, rfl, rfl⟩
        case round =>
          obtain ⟨k, hk, rfl, rfl⟩ := hrel
          have hlt2 : k < all.length := by omega
          obtain ⟨ao', cap', hv', -, hcells⟩ := HO.out
          obtain ⟨b, off, rfl, hbB, c1⟩ := hcells k _ (List.getElem?_eq_getElem hlt2)
          cases hv'
          clear hcells
          obtain ⟨z, hz⟩ : ∃ x, all[k] = x := ⟨_, rfl⟩
          rw [hz] at c1
          have c1' := HC1.out.cell c1 id
          clear c1
          have HZ := Lib.hid hz; clear hz
          have hcond : Hid ((!decide (z ∈ out) && readyB ps out z) = decide (k = at_)) := by
            show _ = _
            by_cases hka : k = at_
            · have : z = x := by
                have := HAT.out
                rw [← hka, List.getElem?_eq_getElem hlt2, HZ.out] at this
                cases this; rfl
              subst this
              obtain ⟨_, h2, h3⟩ := pick_some HX.out
              simp [hka, h2, h3]
            · have hfind := HX.out
              unfold pick at hfind
              rw [HALL.out, List.find?_eq_some_iff_getElem] at hfind
              obtain ⟨_, j, hj, e1, e2⟩ := hfind
              have hjat : j = at_ := by
                have hnd : all.Nodup := by rw [← HALL.out]; exact (nums_sorted ps).imp (fun h e => by subst e; omega)
                exact (List.getElem?_inj hj hnd).1 (by rw [HAT.out, List.getElem?_eq_getElem hj, e1])
              have := e2 k (by omega)
              rw [HZ.out] at this
              simp only [Bool.not_eq_true', Bool.eq_false_iff] at this
              rw [Bool.eq_false_iff.2 this]
              simp [hka]
          have hin1 : Calls Try.prog 23 #[Value.slice oo out.length ocap, .int .i64 z] wr (BoolPost wr (decide (z ∈ out))) := in_any z HOI.out (by omega)
          have hrd1 : Calls Try.prog 24 #[v, Value.slice oo out.length ocap, .int .i64 z] wr (BoolPost wr (readyB ps out z)) := ready_any z (HP.out.new (HC.out.trans HC1.out)) HOI.out hl (by omega)
          have HIN := Lib.hid hin1; have HRD := Lib.hid hrd1; clear hin1 hrd1
          obtain ⟨qi, hqi⟩ : ∃ q, decide (z ∈ out) = q := ⟨_, rfl⟩
          obtain ⟨qr, hqr⟩ : ∃ q, readyB ps out z = q := ⟨_, rfl⟩
          rw [hqi, hqr] at hcond
          rw [hqi] at HIN
          rw [hqr] at HRD
          clear hqi hqr
          cases qi
          · cases qr
            · have hka := Lib.hid (show k ≠ at_ from by have := hcond.out; simpa using this)
              go_wp2_with (first | (go_at_call 23; refine HIN.out.mono ?_; rintro e w' ⟨rfl, rfl⟩) | (go_at_call 24; refine HRD.out.mono ?_; rintro e w' ⟨rfl, rfl⟩))
              go_round
              case rel => exact ⟨k + 1, by have := hka.out; omega, by go_num, rfl⟩
              case measure => simp [intOf] <;> omega
            · have hka : k = at_ := by have := hcond.out; simpa using this
              have hzx : z = x := by
                have := HAT.out
                rw [← hka, List.getElem?_eq_getElem hlt2, HZ.out] at this
                cases this; rfl
              have HZX := Lib.hid hzx
              clear hka hzx
              go_wp2_with (first | (go_at_call 23; refine HIN.out.mono ?_; rintro e w' ⟨rfl, rfl⟩) | (go_at_call 24; refine HRD.out.mono ?_; rintro e w' ⟨rfl, rfl⟩) | (at_builtin; refine wpList_app1 rfl _ _ 24 rfl Try.underlying24 Try.info3 rfl (by decide) (by decide) [.int .i64 z] rfl rfl HO1.out rfl rfl (by intro u hu; simp at hu; subst hu; rfl) (by omega) HC1.out.size ?_; intro v' w1 ho1 hc1; have HO2 := Lib.hid ho1; have HC2 := Lib.hid hc1; clear ho1 hc1))
              go_roundg (all.length - (out.length + 1) + 1)
              case measure => omega
              case rel => exact ⟨out ++ [z], by rw [List.length_append, ints_append]; exact HO2.out, HC1.out.trans' HC2.out (fun i hi h => by have := h.1; omega), by rw [HZX.out]; exact HG.out.put HX.out, by simp⟩
          · have hka := Lib.hid (show k ≠ at_ from by have := hcond.out; simpa using this)
            go_wp2_with (first | (go_at_call 23; refine HIN.out.mono ?_; rintro e w' ⟨rfl, rfl⟩) | (go_at_call 24; refine HRD.out.mono ?_; rintro e w' ⟨rfl, rfl⟩))
            go_round
            case rel => exact ⟨k + 1, by have := hka.out; omega, by go_num, rfl⟩
            case measure => simp [intOf] <;> omega
      · go_wp2
        go_ret2
        exact ⟨_, out, true, rfl, ownsRow_base HO1.out HC.out.size, by omega, HC.out.trans HC1.out, by simp, fun _ => ⟨HAC.out, HG.out, by rw [HALL.out]; omega⟩⟩
  · have HT := Lib.hid (HV.out.1 rfl).1
    go_wp2
    go_ret2
    exact ⟨_, [], false, rfl, World.ownsRow_nil _ _ _ _, by simp, HC0.out, fun _ => ⟨rfl, _, HT.out⟩, by simp⟩

end Go.Proofs.Ytochkamjfmdmoaa
