/- Walks: Push. -/
import Derived.Test.YtochkamjfmdmoaaWA
namespace Go.Proofs.Ytochkamjfmdmoaa
open Go.RowKit

/-- how far the region has come -/
def PushPh (W : World) (fb : Nat) (sv : Value) (n : Nat) (q : List Int) (x : Int) (b6 b7 b9 : Bool) (vb : Value) (w' : World) : Prop :=
  match b6, b7, b9 with
  | false, false, false => w' = W
  | true, false, false => w' = W.alloc (.cells #[.int .i64 x] 3)
  | true, true, false => w'.ownsRow 0 3 1 vb (n + 1) (ints q ++ [.int .i64 x]) ∧ Chg (fun k => 0 ≤ k ∧ sv.ownBlock = some k) W w' ∧ (vb.ownBlock = sv.ownBlock ∨ vb.ownBlock = some (W.heap.size + 1))
  | true, true, true => ∃ w1, (w1.ownsRow 0 3 1 vb (n + 1) (ints q ++ [.int .i64 x]) ∧ Chg (fun k => 0 ≤ k ∧ sv.ownBlock = some k) W w1 ∧ (vb.ownBlock = sv.ownBlock ∨ vb.ownBlock = some (W.heap.size + 1))) ∧ w' = w1.setCell ⟨fb, 0, none⟩ vb
  | _, _, _ => False

theorem PushPh.cell {W : World} {fb : Nat} {sv : Value} {n : Nat} {q : List Int} {x : Int} {b6 : Bool} {vb : Value} {w' : World} (h : PushPh W fb sv n q x b6 false false vb w') {a : Addr} {u : Value} (hc : W.cell? a = some u) : w'.cell? a = some u := by
  cases b6 <;> simp only [PushPh] at h
  · subst h; exact hc
  · subst h; exact (Chg.alloc (fun _ => False) _ _).cell hc id

def HeapPost (w : World) (fb : Nat) (P : List Int → Prop) (sv : Value) (e : Ending) (w' : World) : Prop :=
  e = .returned (.tuple #[]) ∧ ∃ sv' l, P l ∧ HeapAt w' fb sv' l ∧ HChg fb w sv w' sv'

set_option maxHeartbeats 1000000 in
theorem push_any {w : World} {fb : Nat} {sv : Value} {q : List Int} {x : Int} (h : HeapAt w fb sv q) (hq : q.length ≤ 100000) : Calls Try.prog 50 #[.pointer (some ⟨fb, 0, none⟩), .iface 3 (.int .i64 x)] w (HeapPost w fb (fun l => l = q ++ [x]) sv) := by
  obtain ⟨ao, cap, rfl⟩ := owned_slice h.row
  have HH := Lib.hid h; clear h
  obtain ⟨n, hn⟩ : ∃ n, q.length = n := ⟨_, rfl⟩
  have HC0 : Hid (w.drew.cell? ⟨fb, 0, none⟩ = some (.slice ao n cap)) := by show _ = _; rw [← hn]; exact cell_of_heap (w := w.drew) HH.out.cell
  have HROW : Hid (w.drew.ownsRow 0 3 1 (.slice ao n cap) n (ints q)) := by show World.ownsRow _ _ _ _ _ _ _; have := HH.out.row; rw [hn] at this; exact this
  have HNE : Hid ((Value.slice ao n cap).ownBlock ≠ some fb) := by show _ ≠ _; have := HH.out.ne; rw [hn] at this; exact this
  have HHP : Hid (w.drew.heap[fb]? = some (.cells #[.slice ao n cap] 43)) := by show _ = _; rw [← hn]; exact HH.out.cell
  rw [hn] at hq ⊢
  have HN := Lib.hid hn; clear hn
  have hta : ∀ w, (Instr.typeAssert (.iface 3 (.int .i64 x)) 20 3 false).run Try.prog w = .ok (.int .i64 x) w := fun _ => by kernel_rfl
  go_enter Try.func50, Try.ntmps50
  go_wp2_with fail
  obtain ⟨W, hW⟩ : ∃ W, w.drew = W := ⟨_, rfl⟩
  have HCW : Hid (Chg (fun _ => False) w W) := by show Chg _ _ _; rw [← hW]; exact Chg.drew _ _
  have HWS : Hid (W.heap.size = w.heap.size) := by show _ = _; rw [← hW]; rfl
  rw [hW] at HC0 HROW HHP
  have HW := Lib.hid hW; clear hW
  obtain ⟨F, hF⟩ : ∃ F : Bool → Bool → Bool → Bool → Bool → Bool → Bool → Bool → Bool → Option Addr → Nat → Act, F = (fun b0 b1 b2 b3 b4 b5 b6 b7 b8 ab cb => ⟨(Value.pointer (some { block := fb, off := 0 }) :: Value.iface 3 (Value.int IntKind.i64 x) :: undef :: undef ::
    sel b0 (Value.pointer (some { block := fb, off := 0 })) undef :: sel b1 (Value.pointer (some { block := fb, off := 0 })) undef :: sel b2 (Value.pointer (some { block := fb, off := 0 })) undef :: sel b3 (.slice ao n cap) undef ::
    sel b4 (Value.iface 3 (Value.int IntKind.i64 x)) undef :: sel b5 (.int .i64 x) undef :: sel b6 (.slice (some ⟨W.heap.size, 0, none⟩) 1 1) undef :: sel b7 (.slice ab (n + 1) cb) undef :: sel b8 (Value.pointer (some { block := fb, off := 0 })) undef :: []).toArray, []⟩) := ⟨_, rfl⟩
  have HF := Lib.hid hF; clear hF
  obtain ⟨J, hJ⟩ : ∃ J : Array Bool → Act → World → Prop, J = (fun L a w' => ∃ b0 b1 b2 b3 b4 b5 b6 b7 b8 b9 ab cb, L = #[b0, b1, b2, b3, b4, b5, b6, b7, b8, b9] ∧ a = F b0 b1 b2 b3 b4 b5 b6 b7 b8 ab cb ∧
    PushPh W fb (.slice ao n cap) n q x b6 b7 b9 (.slice ab (n + 1) cb) w' ∧ (b9 = true → b0 = true ∧ b1 = true ∧ b2 = true ∧ b3 = true ∧ b4 = true ∧ b5 = true ∧ b6 = true ∧ b7 = true ∧ b8 = true) ∧ (b7 = true → b3 = true)) := ⟨_, rfl⟩
  have HJ := Lib.hid hJ; clear hJ
  refine wp_region_inv Try.mixed ?_ J ?_ ?_ ?_
  · intro i o ho
    have hi : i < 10 := by simpa using (Array.getElem?_eq_some_iff.1 ho).1
    rcases (by omega : i = 0 ∨ i = 1 ∨ i = 2 ∨ i = 3 ∨ i = 4 ∨ i = 5 ∨ i = 6 ∨ i = 7 ∨ i = 8 ∨ i = 9) with rfl | rfl | rfl | rfl | rfl | rfl | rfl | rfl | rfl | rfl <;> (simp at ho; subst ho; simp [Region.binds])
  · rw [HJ.out]
    refine ⟨false, false, false, false, false, false, false, false, false, false, none, 0, rfl, ?_, ?_⟩
    · rw [HF.out]; rfl
    · refine ⟨?_, by simp, by simp⟩
      rw [HW.out]; rfl
  · intro L a' w' i o hI hLi ho hdep
    rw [HJ.out] at hI
    obtain ⟨b0, b1, b2, b3, b4, b5, b6, b7, b8, b9, ab, cb, rfl, rfl, hph, hall, h73⟩ := hI
    have hi : i < 10 := by simpa using (Array.getElem?_eq_some_iff.1 ho).1
    have ho' := ho
    have hL0 := hLi
    rcases (by omega : i = 0 ∨ i = 1 ∨ i = 2 ∨ i = 3 ∨ i = 4 ∨ i = 5 ∨ i = 6 ∨ i = 7 ∨ i = 8 ∨ i = 9) with rfl | rfl | rfl | rfl | rfl | rfl | rfl | rfl | rfl | rfl <;> (simp at ho'; subst ho'; simp at hLi; subst hLi; simp [Region.binds] at hdep)
    · have h9 : b9 = false := by cases b9; rfl; simp at hall
      subst h9
      clear hall
      refine wpOp_k fun K hK => wpOp_of_wp ho rfl ?_
      rw [HF.out]
      clear ho hL0
      have HPH := Lib.hid hph; clear hph
      simp only [sel_false]
      go_wp2
      rw [HJ.out]
      exact ⟨true, b1, b2, b3, b4, b5, b6, b7, b8, false, ab, cb, rfl, by rw [HF.out]; rfl, HPH.out, by simp, h73⟩
    · have h9 : b9 = false := by cases b9; rfl; simp at hall
      subst h9
      clear hall
      refine wpOp_k fun K hK => wpOp_of_wp ho rfl ?_
      rw [HF.out]
      clear ho hL0
      have HPH := Lib.hid hph; clear hph
      simp only [sel_false]
      go_wp2
      rw [HJ.out]
      exact ⟨b0, true, b2, b3, b4, b5, b6, b7, b8, false, ab, cb, rfl, by rw [HF.out]; rfl, HPH.out, by simp, h73⟩
    · have h9 : b9 = false := by cases b9; rfl; simp at hall
      subst h9
      clear hall
      subst hdep
      refine wpOp_k fun K hK => wpOp_of_wp ho rfl ?_
      rw [HF.out]
      clear ho hL0
      have HPH := Lib.hid hph; clear hph
      simp only [sel_true, sel_false]
      go_wp2
      rw [HJ.out]
      exact ⟨b0, true, true, b3, b4, b5, b6, b7, b8, false, ab, cb, rfl, by rw [HF.out]; rfl, HPH.out, by simp, h73⟩
    · have h9 : b9 = false := by cases b9; rfl; simp at hall
      subst h9
      clear hall
      have h7 : b7 = false := by cases b7; rfl; simp at h73
      subst h7
      subst hdep
      have cw := hph.cell HC0.out
      refine wpOp_k fun K hK => wpOp_of_wp ho rfl ?_
      rw [HF.out]
      clear ho hL0
      have HPH := Lib.hid hph; clear hph
      simp only [sel_true, sel_false]
      go_wp2
      rw [HJ.out]
      exact ⟨b0, b1, true, true, b4, b5, b6, false, b8, false, ab, cb, rfl, by rw [HF.out]; rfl, HPH.out, by simp, by simp⟩
    · have h9 : b9 = false := by cases b9; rfl; simp at hall
      subst h9
      clear hall
      refine wpOp_k fun K hK => wpOp_of_wp ho rfl ?_
      rw [HF.out]
      clear ho hL0
      have HPH := Lib.hid hph; clear hph
      simp only [sel_false]
      go_wp2
      rw [HJ.out]
      exact ⟨b0, b1, b2, b3, true, b5, b6, b7, b8, false, ab, cb, rfl, by rw [HF.out]; rfl, HPH.out, by simp, h73⟩
    · have h9 : b9 = false := by cases b9; rfl; simp at hall
      subst h9
      clear hall
      subst hdep
      refine wpOp_k fun K hK => wpOp_of_wp ho rfl ?_
      rw [HF.out]
      clear ho hL0
      have HPH := Lib.hid hph; clear hph
      simp only [sel_true, sel_false]
      go_wp2
      rw [HJ.out]
      exact ⟨b0, b1, b2, b3, true, true, b6, b7, b8, false, ab, cb, rfl, by rw [HF.out]; rfl, HPH.out, by simp, h73⟩
    · have h9 : b9 = false := by cases b9; rfl; simp at hall
      subst h9
      clear hall
      subst hdep
      have h7 : b7 = false := by cases b7; rfl; simp only [PushPh] at hph
      subst h7
      simp only [PushPh] at hph
      subst hph
      refine wpOp_k fun K hK => wpOp_of_wp ho rfl ?_
      rw [HF.out]
      clear ho hL0
      simp only [sel_true, sel_false]
      go_wp2
      rw [HJ.out]
      exact ⟨b0, b1, b2, b3, b4, true, true, false, b8, false, ab, cb, rfl, by rw [HF.out]; rfl, rfl, by simp, by simp⟩
    · have h9 : b9 = false := by cases b9; rfl; simp at hall
      subst h9
      clear hall
      obtain ⟨rfl, rfl⟩ := hdep
      simp only [PushPh] at hph
      subst hph
      obtain ⟨v', w2, hrun, ho2, hc2, hb2⟩ := run_app1 (P := Try.prog) (w0 := W) (t := 43) (ty := 43) Try.underlying43 Try.info3 rfl (by decide) (by decide) [.int .i64 x] HROW.out rfl (by intro u hu; simp at hu; subst hu; rfl) hq (Nat.zero_le _)
      obtain ⟨ab2, cb2, rfl⟩ := owned_slice ho2
      refine wpOp_k fun K hK => wpOp_of_wp ho rfl ?_
      rw [HF.out]
      clear ho hL0
      simp only [sel_true, sel_false]
      unfold Oper.wp
      simp [execOp, resolve, invoke, builtin, Act.eval, hrun, Result.andThen, Oper.upon, Act.put]
      refine hK _ _ ?_
      rw [HJ.out]
      exact ⟨b0, b1, b2, true, b4, b5, true, true, b8, false, ab2, cb2, rfl, by rw [HF.out]; rfl, ⟨ho2, hc2, hb2⟩, by simp, by simp⟩
    · have h9 : b9 = false := by cases b9; rfl; simp at hall
      subst h9
      clear hall
      obtain ⟨rfl, rfl, rfl, rfl, rfl, rfl, rfl, rfl⟩ := hdep
      refine wpOp_k fun K hK => wpOp_of_wp ho rfl ?_
      rw [HF.out]
      clear ho hL0
      have HPH := Lib.hid hph; clear hph
      simp only [sel_true, sel_false]
      go_wp2
      rw [HJ.out]
      exact ⟨true, true, true, true, true, true, true, true, true, false, ab, cb, rfl, by rw [HF.out]; rfl, HPH.out, by simp, by simp⟩
    · obtain ⟨rfl, rfl, rfl, rfl, rfl, rfl, rfl, rfl, rfl, -⟩ := hdep
      simp only [PushPh] at hph
      obtain ⟨ho2, hc2, hb2⟩ := hph
      have hcl := hc2.heap HHP.out (fun h => HNE.out h.2)
      have cS := cell_of_heap hcl
      have fS := frozen_of_heap hcl
      refine wpOp_k fun K hK => wpOp_of_wp ho rfl ?_
      rw [HF.out]
      clear ho hL0
      have HO2 := Lib.hid ho2; have HC2 := Lib.hid hc2; have HB2 := Lib.hid hb2; clear ho2 hc2 hb2 hcl
      simp only [sel_true]
      go_wp2
      rw [HJ.out]
      exact ⟨true, true, true, true, true, true, true, true, true, true, ab, cb, rfl, by rw [HF.out]; rfl, ⟨w', ⟨HO2.out, HC2.out, HB2.out⟩, rfl⟩, by simp, by simp⟩
  · intro L a' w' hI hL
    rw [HJ.out] at hI
    obtain ⟨b0, b1, b2, b3, b4, b5, b6, b7, b8, b9, ab, cb, rfl, rfl, hph, hall, h73⟩ := hI
    have h9 : b9 = true := by simpa using hL 9 (by simp)
    subst h9
    obtain ⟨rfl, rfl, rfl, rfl, rfl, rfl, rfl, rfl, rfl⟩ := hall rfl
    simp only [PushPh] at hph
    obtain ⟨w1, ⟨ho2, hc2, hb2⟩, rfl⟩ := hph
    rw [HF.out]
    simp only [sel_true]
    go_end0
    have hcl := hc2.heap HHP.out (fun h => HNE.out h.2)
    have hne : (Value.slice ab (n + 1) cb).ownBlock ≠ some fb := by
      intro e
      obtain ⟨cur, hc⟩ := owned_heap ho2 e
      rw [hcl] at hc
      cases hc
    refine ⟨rfl, _, q ++ [x], rfl, ⟨heap_setCell_one hcl, ?_⟩, ⟨((HCW.out.mono (fun _ _ h => h.elim)).trans (hc2.mono (fun i _ h => .inr h.2))).trans ((Chg.setCell w1 ⟨fb, 0, none⟩ _).mono (fun i _ h => .inl h)), ?_⟩⟩
    · rw [List.length_append, List.length_singleton, HN.out, ints_append]
      exact ownsRow_chg ho2 (Chg.setCell w1 ⟨fb, 0, none⟩ _) (fun g hg e => hne (by have e' : g = fb := e; rw [← e']; exact hg))
    · rcases hb2 with h | h
      · exact .inl h
      · exact .inr ⟨_, h, by have := HWS.out; omega⟩

end Go.Proofs.Ytochkamjfmdmoaa
