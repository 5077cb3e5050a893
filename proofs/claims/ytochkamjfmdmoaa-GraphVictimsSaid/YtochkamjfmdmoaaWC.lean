/- Walks: down, up. -/
import Derived.Test.YtochkamjfmdmoaaWB
namespace Go.Proofs.Ytochkamjfmdmoaa
open Go.RowKit

theorem less_at {w : World} {fb g n c : Nat} {l : List Int} (h : HeapAt w fb (.slice (some ⟨g, 0, none⟩) n c) l) (hl : l.length = n) {x y : Int} {i j : Nat} (hx : x = (i : Int)) (hy : y = (j : Int)) (hi : i < n) (hj : j < n) :
    Calls Try.prog 47 #[.slice (some ⟨g, 0, none⟩) n c, .int .i64 x, .int .i64 y] w (BoolPost' w (decide (el l i < el l j))) := by
  subst hx hy
  have := h.row
  rw [hl] at this
  exact less_any this hi hj
theorem swap_at {w : World} {fb g n c : Nat} {l : List Int} (h : HeapAt w fb (.slice (some ⟨g, 0, none⟩) n c) l) (hl : l.length = n) {x y : Int} {i j : Nat} (hx : x = (i : Int)) (hy : y = (j : Int)) (hi : i < n) (hj : j < n) :
    Calls Try.prog 48 #[.slice (some ⟨g, 0, none⟩) n c, .int .i64 x, .int .i64 y] w (SwapPost w g n c 0 (swp l i j)) := by
  subst hx hy
  have := h.row
  rw [hl] at this
  exact swap_any this hi hj
theorem HeapAt.new {w w' : World} {fb : Nat} {sv : Value} {l : List Int} (h : HeapAt w fb sv l) (c : Chg (fun _ => False) w w') : HeapAt w' fb sv l := ⟨c.heap h.cell id, ownsRow_chg h.row c (fun _ _ => id)⟩
theorem HChg.new {fb : Nat} {w w' : World} {sv : Value} (c : Chg (fun _ => False) w w') : HChg fb w sv w' sv := ⟨c.mono (fun _ _ h => h.elim), .inl rfl⟩

def DownPost (w : World) (fb : Nat) (sv : Value) (l : List Int) (n i : Nat) (e : Ending) (w' : World) : Prop :=
  ∃ b l', e = .returned (.bool b) ∧ l'.Perm l ∧ HeapFrom l' n i ∧ (∀ t, n ≤ t → el l' t = el l t) ∧ HeapAt w' fb sv l' ∧ HChg fb w sv w' sv

set_option maxHeartbeats 1000000 in
theorem down_any {w : World} {fb g L c : Nat} {l : List Int} (hh : HeapAt w fb (.slice (some ⟨g, 0, none⟩) L c) l) (hl : l.length = L) {x y : Int} {i n : Nat} (hx : x = (i : Int)) (hy : y = (n : Int)) (hL : L ≤ 100000) (hi : i ≤ L) (hn : n ≤ L) (hf : HeapFrom l n (i + 1)) :
    Calls Try.prog 28 #[.iface 45 (.pointer (some ⟨fb, 0, none⟩)), .int .i64 x, .int .i64 y] w (DownPost w fb (.slice (some ⟨g, 0, none⟩) L c) l n i) := by
  subst hx hy
  have HH := Lib.hid hh; have HL := Lib.hid hl; have HF := Lib.hid hf; clear hh hl hf
  go_enter Try.func28, Try.ntmps28
  go_wp2_with fail
  go_loopg [7] (L + 1) (fun gg s wr => ∃ (k : Nat) (lk : List Int), s = .int .i64 k ∧ k ≤ L ∧ lk.length = L ∧ lk.Perm l ∧ DownInv lk n i k ∧ (∀ t, n ≤ t → el lk t = el l t) ∧ HeapAt wr fb (.slice (some ⟨g, 0, none⟩) L c) lk ∧ HChg fb w (.slice (some ⟨g, 0, none⟩) L c) wr (.slice (some ⟨g, 0, none⟩) L c) ∧ L - k < gg)
  case atStart => exact ⟨i, l, rfl, hi, HL.out, List.Perm.refl _, DownInv.start HF.out, fun _ _ => rfl, HH.out, HChg.refl _ _ _, by omega⟩
  case round =>
    clear HH HF
    obtain ⟨k, lk, rfl, hk, hlk, hpm, hdi, hrest, hha, hch, hlt⟩ := hrel
    have HLK := Lib.hid hlk; have HPM := Lib.hid hpm; have HDI := Lib.hid hdi; have HRE := Lib.hid hrest; have HHA := Lib.hid hha; have HCH := Lib.hid hch; have HLT := Lib.hid hlt
    clear hlk hpm hdi hrest hha hch hlt
    by_cases h1 : 2 * k + 1 < n
    · -- a child
      have h1' : 2 * (k : Int) + 1 < (n : Int) := by omega
      have h1'' : ¬ (2 * (k : Int) + 1 < 0) := by omega
      have cS := cell_of_heap HHA.out.cell
      have hmL := meth_less cS
      by_cases h2 : 2 * k + 2 < n
      · have h2' : 2 * (k : Int) + 1 + 1 < (n : Int) := by omega
        obtain ⟨q2, hq2⟩ : ∃ q, decide (el lk (2 * k + 2) < el lk (2 * k + 1)) = q := ⟨_, rfl⟩
        go_wp2_with fail
        refine (less_at HHA.out HLK.out (i := 2 * k + 2) (j := 2 * k + 1) (by omega) (by omega) (by omega) (by omega)).mono ?_
        rw [hq2]
        rintro e w2 ⟨rfl, hc2⟩
        have HQ2 := Lib.hid hq2; clear hq2
        have HHA2 := Lib.hid (HHA.out.new hc2); have HCH2 := Lib.hid (HCH.out.trans (HChg.new hc2)); clear hc2 hmL cS
        cases q2
        · have hge2 : el lk (2 * k + 1) ≤ el lk (2 * k + 2) := by have := HQ2.out; simpa using this
          have HGE2 := Lib.hid hge2; clear hge2
          have hleast : ∀ j, 0 < j → j < n → (j - 1) / 2 = k → el lk (2 * k + 1) ≤ el lk j := by
            intro j h0 hj e
            rcases (by omega : j = 2 * k + 1 ∨ j = 2 * k + 2) with rfl | rfl
            · exact Int.le_refl _
            · exact HGE2.out
          have HLE := Lib.hid hleast; clear hleast
          have hmL3 := meth_less (cell_of_heap HHA2.out.cell)
          have hmS3 := meth_swap (cell_of_heap HHA2.out.cell)
          obtain ⟨q3, hq3⟩ : ∃ q, decide (el lk (2 * k + 1) < el lk k) = q := ⟨_, rfl⟩
          go_wp2_with fail
          refine (less_at HHA2.out HLK.out (i := 2 * k + 1) (j := k) (by omega) (by omega) (by omega) (by omega)).mono ?_
          rw [hq3]
          rintro e w3 ⟨rfl, hc3⟩
          have HQ3 := Lib.hid hq3; clear hq3
          have HHA3 := Lib.hid (HHA2.out.new hc3); have HCH3 := Lib.hid (HCH2.out.trans (HChg.new hc3)); clear hc3 hmL3 hmS3
          have hmS3 := meth_swap (cell_of_heap HHA3.out.cell)
          cases q3
          · have hge : el lk k ≤ el lk (2 * k + 1) := by have := HQ3.out; simpa using this
            have HGE := Lib.hid hge; clear hge
            go_wp2
            go_ret
            exact ⟨_, lk, rfl, HPM.out, HDI.out.done (fun j h0 hj e => Int.le_trans HGE.out (HLE.out j h0 hj e)), HRE.out, HHA3.out, HCH3.out⟩
          · have hlt3 : el lk (2 * k + 1) < el lk k := by have := HQ3.out; simpa using this
            have HLT3 := Lib.hid hlt3; clear hlt3
            go_wp2_with fail
            refine (swap_at HHA3.out HLK.out (i := k) (j := 2 * k + 1) (by omega) (by omega) (by omega) (by omega)).mono ?_
            rintro e w4 ⟨rfl, hr4, hc4⟩
            obtain ⟨hha4, hch4⟩ := HHA3.out.swap (by rw [length_swp, HLK.out]) hr4 hc4
            have HHA4 := Lib.hid hha4; have HCH4 := Lib.hid (HCH3.out.trans hch4); clear hha4 hch4 hr4 hc4
            go_wp2_with fail
            go_roundg (L - (2 * k + 1) + 1)
            case measure => have := HLT.out; omega
            case rel =>
              exact ⟨2 * k + 1, swp lk k (2 * k + 1), by go_num, by omega, by rw [length_swp, HLK.out], (perm_swp (by rw [HLK.out]; omega) (by rw [HLK.out]; omega)).trans HPM.out, HDI.out.step (by rw [HLK.out]; exact hn) (by omega) (by omega) (by omega) (Int.le_of_lt HLT3.out) HLE.out, by
                intro t ht
                rw [el_swp (by rw [HLK.out]; omega) (by rw [HLK.out]; omega), if_neg (by omega), if_neg (by omega)]
                exact HRE.out t ht, HHA4.out, HCH4.out, by omega⟩
        · have hlt2 : el lk (2 * k + 2) < el lk (2 * k + 1) := by have := HQ2.out; simpa using this
          have HLT2 := Lib.hid hlt2; clear hlt2
          have hleast : ∀ j, 0 < j → j < n → (j - 1) / 2 = k → el lk (2 * k + 2) ≤ el lk j := by
            intro j h0 hj e
            rcases (by omega : j = 2 * k + 1 ∨ j = 2 * k + 2) with rfl | rfl
            · exact Int.le_of_lt HLT2.out
            · exact Int.le_refl _
          have HLE := Lib.hid hleast; clear hleast
          have hmL3 := meth_less (cell_of_heap HHA2.out.cell)
          have hmS3 := meth_swap (cell_of_heap HHA2.out.cell)
          obtain ⟨q3, hq3⟩ : ∃ q, decide (el lk (2 * k + 2) < el lk k) = q := ⟨_, rfl⟩
          go_wp2_with fail
          refine (less_at HHA2.out HLK.out (i := 2 * k + 2) (j := k) (by omega) (by omega) (by omega) (by omega)).mono ?_
          rw [hq3]
          rintro e w3 ⟨rfl, hc3⟩
          have HQ3 := Lib.hid hq3; clear hq3
          have HHA3 := Lib.hid (HHA2.out.new hc3); have HCH3 := Lib.hid (HCH2.out.trans (HChg.new hc3)); clear hc3 hmL3 hmS3
          have hmS3 := meth_swap (cell_of_heap HHA3.out.cell)
          cases q3
          · have hge : el lk k ≤ el lk (2 * k + 2) := by have := HQ3.out; simpa using this
            have HGE := Lib.hid hge; clear hge
            go_wp2
            go_ret
            exact ⟨_, lk, rfl, HPM.out, HDI.out.done (fun j h0 hj e => Int.le_trans HGE.out (HLE.out j h0 hj e)), HRE.out, HHA3.out, HCH3.out⟩
          · have hlt3 : el lk (2 * k + 2) < el lk k := by have := HQ3.out; simpa using this
            have HLT3 := Lib.hid hlt3; clear hlt3
            go_wp2_with fail
            refine (swap_at HHA3.out HLK.out (i := k) (j := 2 * k + 2) (by omega) (by omega) (by omega) (by omega)).mono ?_
            rintro e w4 ⟨rfl, hr4, hc4⟩
            obtain ⟨hha4, hch4⟩ := HHA3.out.swap (by rw [length_swp, HLK.out]) hr4 hc4
            have HHA4 := Lib.hid hha4; have HCH4 := Lib.hid (HCH3.out.trans hch4); clear hha4 hch4 hr4 hc4
            go_wp2_with fail
            go_roundg (L - (2 * k + 2) + 1)
            case measure => have := HLT.out; omega
            case rel =>
              exact ⟨2 * k + 2, swp lk k (2 * k + 2), by go_num, by omega, by rw [length_swp, HLK.out], (perm_swp (by rw [HLK.out]; omega) (by rw [HLK.out]; omega)).trans HPM.out, HDI.out.step (by rw [HLK.out]; exact hn) (by omega) (by omega) (by omega) (Int.le_of_lt HLT3.out) HLE.out, by
                intro t ht
                rw [el_swp (by rw [HLK.out]; omega) (by rw [HLK.out]; omega), if_neg (by omega), if_neg (by omega)]
                exact HRE.out t ht, HHA4.out, HCH4.out, by omega⟩
      · have h2' : ¬ 2 * (k : Int) + 1 + 1 < (n : Int) := by omega
        clear hmL cS
        have hleast : ∀ j, 0 < j → j < n → (j - 1) / 2 = k → el lk (2 * k + 1) ≤ el lk j := by
          intro j h0 hj e
          have : j = 2 * k + 1 := by omega
          rw [this]; exact Int.le_refl _
        have HLE := Lib.hid hleast; clear hleast
        have hmL3 := meth_less (cell_of_heap HHA.out.cell)
        have hmS3 := meth_swap (cell_of_heap HHA.out.cell)
        obtain ⟨q3, hq3⟩ : ∃ q, decide (el lk (2 * k + 1) < el lk k) = q := ⟨_, rfl⟩
        go_wp2_with fail
        refine (less_at HHA.out HLK.out (i := 2 * k + 1) (j := k) (by omega) (by omega) (by omega) (by omega)).mono ?_
        rw [hq3]
        rintro e w3 ⟨rfl, hc3⟩
        have HQ3 := Lib.hid hq3; clear hq3
        have HHA3 := Lib.hid (HHA.out.new hc3); have HCH3 := Lib.hid (HCH.out.trans (HChg.new hc3)); clear hc3 hmL3 hmS3
        have hmS3 := meth_swap (cell_of_heap HHA3.out.cell)
        cases q3
        · have hge : el lk k ≤ el lk (2 * k + 1) := by have := HQ3.out; simpa using this
          have HGE := Lib.hid hge; clear hge
          go_wp2
          go_ret
          exact ⟨_, lk, rfl, HPM.out, HDI.out.done (fun j h0 hj e => Int.le_trans HGE.out (HLE.out j h0 hj e)), HRE.out, HHA3.out, HCH3.out⟩
        · have hlt3 : el lk (2 * k + 1) < el lk k := by have := HQ3.out; simpa using this
          have HLT3 := Lib.hid hlt3; clear hlt3
          go_wp2_with fail
          refine (swap_at HHA3.out HLK.out (i := k) (j := 2 * k + 1) (by omega) (by omega) (by omega) (by omega)).mono ?_
          rintro e w4 ⟨rfl, hr4, hc4⟩
          obtain ⟨hha4, hch4⟩ := HHA3.out.swap (by rw [length_swp, HLK.out]) hr4 hc4
          have HHA4 := Lib.hid hha4; have HCH4 := Lib.hid (HCH3.out.trans hch4); clear hha4 hch4 hr4 hc4
          go_wp2_with fail
          go_roundg (L - (2 * k + 1) + 1)
          case measure => have := HLT.out; omega
          case rel =>
            exact ⟨2 * k + 1, swp lk k (2 * k + 1), by go_num, by omega, by rw [length_swp, HLK.out], (perm_swp (by rw [HLK.out]; omega) (by rw [HLK.out]; omega)).trans HPM.out, HDI.out.step (by rw [HLK.out]; exact hn) (by omega) (by omega) (by omega) (Int.le_of_lt HLT3.out) HLE.out, by
              intro t ht
              rw [el_swp (by rw [HLK.out]; omega) (by rw [HLK.out]; omega), if_neg (by omega), if_neg (by omega)]
              exact HRE.out t ht, HHA4.out, HCH4.out, by omega⟩
    · have h1' : ¬ 2 * (k : Int) + 1 < (n : Int) := by omega
      go_wp2
      go_ret
      exact ⟨_, lk, rfl, HPM.out, HDI.out.done (fun j h0 hj e => by omega), HRE.out, HHA.out, HCH.out⟩
end Go.Proofs.Ytochkamjfmdmoaa
