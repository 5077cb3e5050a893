/- Walks: up, Init, Pop, Push of package heap. -/
import Derived.Test.YtochkamjfmdmoaaWC
namespace Go.Proofs.Ytochkamjfmdmoaa
open Go.RowKit

def UpPost (w : World) (fb : Nat) (sv : Value) (l : List Int) (e : Ending) (w' : World) : Prop :=
  e = .returned (.tuple #[]) ∧ ∃ l', l'.Perm l ∧ HeapFrom l' l'.length 0 ∧ HeapAt w' fb sv l' ∧ HChg fb w sv w' sv

set_option maxHeartbeats 1000000 in
theorem up_any {w : World} {fb g L c : Nat} {l : List Int} (hh : HeapAt w fb (.slice (some ⟨g, 0, none⟩) L c) l) (hl : l.length = L) {x : Int} {i : Nat} (hx : x = (i : Int)) (hL : L ≤ 100000) (hi : i < L) (hu : UpInv l L i) :
    Calls Try.prog 29 #[.iface 45 (.pointer (some ⟨fb, 0, none⟩)), .int .i64 x] w (UpPost w fb (.slice (some ⟨g, 0, none⟩) L c) l) := by
  subst hx
  have HH := Lib.hid hh; have HL := Lib.hid hl; have HU := Lib.hid hu; clear hh hl hu
  go_enter Try.func29, Try.ntmps29
  go_wp2_with fail
  go_loopg [1] (L + 1) (fun gg s wr => ∃ (k : Nat) (lk : List Int), s = .int .i64 k ∧ k < L ∧ lk.length = L ∧ lk.Perm l ∧ UpInv lk L k ∧ HeapAt wr fb (.slice (some ⟨g, 0, none⟩) L c) lk ∧ HChg fb w (.slice (some ⟨g, 0, none⟩) L c) wr (.slice (some ⟨g, 0, none⟩) L c) ∧ k < gg)
  case atStart => exact ⟨i, l, rfl, hi, HL.out, List.Perm.refl _, HU.out, HH.out, HChg.refl _ _ _, by omega⟩
  case round =>
    clear HH HU
    obtain ⟨k, lk, rfl, hk, hlk, hpm, hui, hha, hch, hlt⟩ := hrel
    have HLK := Lib.hid hlk; have HPM := Lib.hid hpm; have HUI := Lib.hid hui; have HHA := Lib.hid hha; have HCH := Lib.hid hch; have HLT := Lib.hid hlt
    clear hlk hpm hui hha hch hlt
    by_cases h0 : k = 0
    · subst h0
      have hdone := HUI.out.done (fun h => by omega)
      have HD := Lib.hid hdone; clear hdone
      go_wp2
      go_end0
      exact ⟨rfl, lk, HPM.out, by rw [HLK.out]; exact HD.out, HHA.out, HCH.out⟩
    · have hk1 : 1 ≤ (k : Int) := by omega
      have hk2 : (0 : Int) ≤ (k : Int) - 1 := by omega
      obtain ⟨p, hp⟩ : ∃ p, (k - 1) / 2 = p := ⟨_, rfl⟩
      have hpk : p < k := by omega
      have hdv : ((k : Int) - 1) / 2 = (p : Int) := by omega
      have hne : ((p : Int) == (k : Int)) = false := by simp; omega
      have HP := Lib.hid hp; clear hp
      have cS := cell_of_heap HHA.out.cell
      have hmL := meth_less cS
      obtain ⟨q3, hq3⟩ : ∃ q, decide (el lk k < el lk p) = q := ⟨_, rfl⟩
      go_wp2_with fail
      refine (less_at HHA.out HLK.out (i := k) (j := p) (by omega) (by omega) (by omega) (by omega)).mono ?_
      rw [hq3]
      rintro e w3 ⟨rfl, hc3⟩
      have HQ3 := Lib.hid hq3; clear hq3
      have HHA3 := Lib.hid (HHA.out.new hc3); have HCH3 := Lib.hid (HCH.out.trans (HChg.new hc3)); clear hc3 hmL cS
      have hmS3 := meth_swap (cell_of_heap HHA3.out.cell)
      cases q3
      · have hge : el lk p ≤ el lk k := by have := HQ3.out; simpa using this
        have hdone := HUI.out.done (fun _ _ => by rw [HP.out]; exact hge)
        have HD := Lib.hid hdone; clear hdone hge
        go_wp2
        go_end0
        exact ⟨rfl, lk, HPM.out, by rw [HLK.out]; exact HD.out, HHA3.out, HCH3.out⟩
      · have hlt3 : el lk k < el lk p := by have := HQ3.out; simpa using this
        have hst := HUI.out.step (by rw [HLK.out]; exact Nat.le_refl _) hk (by omega) (by rw [HP.out]; omega)
        rw [HP.out] at hst
        have HST := Lib.hid hst; clear hst hlt3
        go_wp2_with fail
        refine (swap_at HHA3.out HLK.out (i := p) (j := k) (by omega) (by omega) (by omega) (by omega)).mono ?_
        rintro e w4 ⟨rfl, hr4, hc4⟩
        obtain ⟨hha4, hch4⟩ := HHA3.out.swap (by rw [length_swp, HLK.out]) hr4 hc4
        have HHA4 := Lib.hid hha4; have HCH4 := Lib.hid (HCH3.out.trans hch4); clear hha4 hch4 hr4 hc4
        go_wp2_with fail
        go_roundg (p + 1)
        case measure => have := HLT.out; omega
        case rel =>
          exact ⟨p, swp lk p k, by first | rfl | go_num, by omega, by rw [length_swp, HLK.out], (perm_swp (by rw [HLK.out]; omega) (by rw [HLK.out]; omega)).trans HPM.out, HST.out, HHA4.out, HCH4.out, by omega⟩

def InitPost (w : World) (fb : Nat) (sv : Value) (l : List Int) (e : Ending) (w' : World) : Prop :=
  e = .returned (.tuple #[]) ∧ ∃ l', l'.Perm l ∧ HeapFrom l' l'.length 0 ∧ HeapAt w' fb sv l' ∧ HChg fb w sv w' sv

set_option maxHeartbeats 1000000 in
theorem init_any {w : World} {fb : Nat} {sv : Value} {l : List Int} (hh : HeapAt w fb sv l) (hL : l.length ≤ 100000) :
    Calls Try.prog 20 #[.iface 45 (.pointer (some ⟨fb, 0, none⟩))] w (InitPost w fb sv l) := by
  obtain ⟨ao, c, rfl⟩ := owned_slice hh.row
  have cS := cell_of_heap hh.cell
  have hmL := meth_len cS
  have HH := Lib.hid hh; clear hh cS
  obtain ⟨L, hl⟩ : ∃ L, l.length = L := ⟨_, rfl⟩
  rw [hl] at HH hL hmL ⊢
  have HL := Lib.hid hl; clear hl
  obtain ⟨M, hM⟩ : ∃ M, L / 2 = M := ⟨_, rfl⟩
  have hM' : (L : Int) / 2 = (M : Int) := by omega
  have HTOP : Hid (HeapFrom l L M) := HeapFrom.top l L M (by omega)
  have hML : 2 * M ≤ L := by omega
  clear hM
  go_enter Try.func20, Try.ntmps20
  go_wp2_with (go_at_call 46; refine (len_any _ _ _ _).mono ?_; rintro e w' ⟨rfl, rfl⟩)
  go_loopg [3] (L + 1) (fun gg s wr => ∃ (m : Nat) (lk : List Int), s = .int .i64 ((m : Int) - 1) ∧ m ≤ M ∧ lk.length = L ∧ lk.Perm l ∧ HeapFrom lk L m ∧ HeapAt wr fb (.slice ao L c) lk ∧ HChg fb w (.slice ao L c) wr (.slice ao L c) ∧ m < gg)
  case atStart => exact ⟨M, l, by first | rfl | simp [hM'], Nat.le_refl _, HL.out, List.Perm.refl _, HTOP.out, HH.out, HChg.refl _ _ _, by omega⟩
  case round =>
    clear HH HTOP hmL
    obtain ⟨m, lk, rfl, hm, hlk, hpm, hhf, hha, hch, hlt⟩ := hrel
    have HLK := Lib.hid hlk; have HPM := Lib.hid hpm; have HHF := Lib.hid hhf; have HHA := Lib.hid hha; have HCH := Lib.hid hch; have HLT := Lib.hid hlt
    clear hlk hpm hhf hha hch hlt
    cases m with
    | zero =>
      go_wp2
      go_end0
      exact ⟨rfl, lk, HPM.out, by rw [HLK.out]; exact HHF.out, HHA.out, HCH.out⟩
    | succ m =>
      have e0 : ((m + 1 : Nat) : Int) - 1 = (m : Int) := by omega
      rw [e0]
      clear e0
      obtain ⟨g, c', hsv, _, _⟩ := owned_nonnil HHA.out.row (by rw [HLK.out]; omega)
      rw [HLK.out] at hsv
      cases hsv
      go_wp2_with fail
      refine (down_any HHA.out HLK.out (i := m) (n := L) rfl rfl hL (by omega) (Nat.le_refl _) HHF.out).mono ?_
      rintro e w2 ⟨b, l2, rfl, hp2, hf2, _, hha2, hch2⟩
      have HP2 := Lib.hid hp2; have HF2 := Lib.hid hf2; have HHA2 := Lib.hid hha2; have HCH2 := Lib.hid hch2; clear hp2 hf2 hha2 hch2
      go_wp2_with fail
      go_roundg (m + 1)
      case measure => have := HLT.out; omega
      case rel => exact ⟨m, l2, by first | rfl | go_num, by omega, by rw [HP2.out.length_eq, HLK.out], HP2.out.trans HPM.out, HF2.out, HHA2.out, HCH.out.trans HCH2.out, by omega⟩

def HPopPost (w : World) (fb : Nat) (sv : Value) (l : List Int) (e : Ending) (w' : World) : Prop :=
  e = .returned (.iface 3 (.int .i64 (el l 0))) ∧ ∃ sv' l', (l' ++ [el l 0]).Perm l ∧ HeapFrom l' l'.length 0 ∧ HeapAt w' fb sv' l' ∧ HChg fb w sv w' sv'

set_option maxHeartbeats 1000000 in
theorem hpop_any {w : World} {fb : Nat} {sv : Value} {l : List Int} (hh : HeapAt w fb sv l) (hL : l.length ≤ 100000) (h0 : 0 < l.length) (hf : HeapFrom l l.length 0) :
    Calls Try.prog 21 #[.iface 45 (.pointer (some ⟨fb, 0, none⟩))] w (HPopPost w fb sv l) := by
  obtain ⟨g, c, rfl, _, _⟩ := owned_nonnil hh.row h0
  have cS := cell_of_heap hh.cell
  have hmL := meth_len cS
  have hmS := meth_swap cS
  have HH := Lib.hid hh; have HF := Lib.hid hf; clear hh cS hf
  obtain ⟨n, hn⟩ : ∃ n, l.length = n + 1 := ⟨l.length - 1, by omega⟩
  rw [hn] at HH hL hmL hmS HF ⊢
  have HN := Lib.hid hn; clear hn h0
  have hmP := meth_pop
  go_enter Try.func21, Try.ntmps21
  go_wp2_with (go_at_call 46; refine (len_any _ _ _ _).mono ?_; rintro e w' ⟨rfl, rfl⟩)
  refine (swap_at HH.out HN.out (i := 0) (j := n) (by rfl) rfl (by omega) (by omega)).mono ?_
  rintro e w2 ⟨rfl, hr2, hc2⟩
  obtain ⟨hha2, hch2⟩ := HH.out.swap (by rw [length_swp, HN.out]) hr2 hc2
  have HHA2 := Lib.hid hha2; have HCH2 := Lib.hid hch2; clear hha2 hch2 hr2 hc2 hmL hmS
  go_wp2_with fail
  refine (down_any HHA2.out (by rw [length_swp, HN.out]) (i := 0) (n := n) (by rfl) rfl hL (by omega) (by omega) (HF.out.afterSwap HN.out.symm)).mono ?_
  rintro e w3 ⟨b, l2, rfl, hp3, hf3, hre3, hha3, hch3⟩
  have hl2 : l2.length = n + 1 := by rw [hp3.length_eq, length_swp, HN.out]
  have hsplit : l2 = l2.take n ++ [el l 0] := by
    have h1 := hre3 n (Nat.le_refl _)
    rw [el_swp (by rw [HN.out]; omega) (by rw [HN.out]; omega), if_pos rfl] at h1
    rw [← h1, el_eq (by omega)]
    rw [← List.take_succ_eq_append_getElem (by omega), List.take_of_length_le (by omega)]
  have HSP := Lib.hid hsplit
  rw [hsplit] at hha3
  have HP3 := Lib.hid (hp3.trans (perm_swp (by rw [HN.out]; omega) (by rw [HN.out]; omega))); have HF3 := Lib.hid hf3.take; have HHA3 := Lib.hid hha3; have HCH3 := Lib.hid (HCH2.out.trans hch3); have HL2 := Lib.hid hl2
  clear hp3 hf3 hha3 hch3 hre3 hl2 hsplit
  go_wp2_with fail
  refine (pop_any HHA3.out (by rw [List.length_take, HL2.out]; omega)).mono ?_
  rintro e w4 ⟨rfl, sv4, hha4, hch4⟩
  have HHA4 := Lib.hid hha4; have HCH4 := Lib.hid (HCH3.out.trans hch4); clear hha4 hch4
  go_wp2
  go_ret
  refine ⟨rfl, sv4, l2.take n, ?_, ?_, HHA4.out, HCH4.out⟩
  · rw [← HSP.out]; exact HP3.out
  · have : (l2.take n).length = n := by rw [List.length_take, HL2.out]; omega
    rw [this]; exact HF3.out

def HPushPost (w : World) (fb : Nat) (sv : Value) (l : List Int) (x : Int) (e : Ending) (w' : World) : Prop :=
  e = .returned (.tuple #[]) ∧ ∃ sv' l', l'.Perm (l ++ [x]) ∧ HeapFrom l' l'.length 0 ∧ HeapAt w' fb sv' l' ∧ HChg fb w sv w' sv'

theorem hpush_any {w : World} {fb : Nat} {sv : Value} {l : List Int} {x : Int} (hh : HeapAt w fb sv l) (hL : l.length ≤ 10000) (hf : HeapFrom l l.length 0) :
    Calls Try.prog 22 #[.iface 45 (.pointer (some ⟨fb, 0, none⟩)), .iface 3 (.int .i64 x)] w (HPushPost w fb sv l x) := by
  have HH := Lib.hid hh; have HF := Lib.hid hf; clear hh hf
  have hmP := meth_push
  go_enter Try.func22, Try.ntmps22
  go_wp2_with fail
  refine (push_any HH.out (by omega)).mono ?_
  rintro e w2 ⟨rfl, sv2, l2, rfl, hha2, hch2⟩
  obtain ⟨g, c, rfl, _, _⟩ := owned_nonnil hha2.row (by simp)
  have hlen : (l ++ [x]).length = l.length + 1 := by simp
  rw [hlen] at hha2 hch2
  have cS := cell_of_heap hha2.cell
  have hmL := meth_len cS
  have HHA2 := Lib.hid hha2; have HCH2 := Lib.hid hch2; have HLEN := Lib.hid hlen; clear hha2 hch2 hlen cS
  go_wp2_with (go_at_call 46; refine (len_any _ _ _ _).mono ?_; rintro e w' ⟨rfl, rfl⟩)
  refine (up_any HHA2.out HLEN.out (i := l.length) (by omega) (by omega) (by omega) (UpInv.start HF.out)).mono ?_
  rintro e w3 ⟨rfl, l3, hp3, hf3, hha3, hch3⟩
  have HP3 := Lib.hid hp3; have HF3 := Lib.hid hf3; have HHA3 := Lib.hid hha3; have HCH3 := Lib.hid (HCH2.out.trans hch3); clear hp3 hf3 hha3 hch3
  go_wp2
  go_end0
  exact ⟨rfl, _, l3, HP3.out, HF3.out, HHA3.out, HCH3.out⟩
end Go.Proofs.Ytochkamjfmdmoaa
