/- Walks: outs. -/
import Derived.Test.YtochkamjfmdmoaaW5
import Derived.Test.YtochkamjfmdmoaaReg
import Derived.Test.YtochkamjfmdmoaaGr
namespace Go.Proofs.Ytochkamjfmdmoaa
open Go.RowKit

theorem Try.mixed : Try.prog.follows .mixedOrders = true := Checked.mixed Try.checked
theorem zero24 (w : World) : (zeroValue 24).run Try.prog w = .ok (.slice none 0 0) w := by kernel_rfl
theorem zero3 (w : World) : (zeroValue 3).run Try.prog w = .ok (.int .i64 0) w := by kernel_rfl
theorem zero4 (w : World) : (zeroValue 4).run Try.prog w = .ok (.bool false) w := by kernel_rfl
theorem zero38 (w : World) : (zeroValue 38).run Try.prog w = .ok (.map none) w := by kernel_rfl

theorem wpOp_of_wp {P : Program} {ops : Array Oper} {Q : Exit → Act → World → Prop} {i : Nat} {o : Oper} {K : Act → World → Prop} {a : Act} {w : World} (ho : ops[i]? = some o) (hg : o.guard = none) (h : o.wp P a w K Q) : wpOp P ops Q i K a w := by
  unfold wpOp
  rw [ho]
  simp only [Region.wanted, hg, if_true]
  exact .inl h

theorem wpOp_k {P : Program} {ops : Array Oper} {Q : Exit → Act → World → Prop} {i : Nat} {K0 : Act → World → Prop} {a : Act} {w : World} (h : ∀ K : Act → World → Prop, (∀ a w, K0 a w → K a w) → wpOp P ops Q i K a w) : wpOp P ops Q i K0 a w := h _ fun _ _ h => h

def sel (b : Bool) (x y : Value) : Value := bif b then x else y
theorem sel_true (x y : Value) : sel true x y = x := rfl
theorem sel_false (x y : Value) : sel false x y = y := rfl

def succs (ps : List (Int × Int)) (k : Int) : List Int := (ps.filter (fun p => p.1 == k)).map (·.2)
theorem succs_snoc (ps : List (Int × Int)) (x y : Int) : succs (ps ++ [(x, y)]) = fun k => if k = x then succs ps x ++ [y] else succs ps k := by
  funext k
  unfold succs
  rw [List.filter_append, List.map_append]
  by_cases h : k = x
  · subst h; simp
  · simp [h, Ne.symm h]
theorem mem_succs {ps : List (Int × Int)} {k y : Int} : y ∈ succs ps k ↔ (k, y) ∈ ps := by
  unfold succs
  constructor
  · intro h
    obtain ⟨p, hp, rfl⟩ := List.mem_map.1 h
    obtain ⟨h1, h2⟩ := List.mem_filter.1 hp
    have : p.1 = k := by simpa using h2
    rw [← this]; exact h1
  · intro h
    exact List.mem_map.2 ⟨(k, y), List.mem_filter.2 ⟨h, by simp⟩, rfl⟩
theorem length_succs (ps : List (Int × Int)) (k : Int) : (succs ps k).length ≤ ps.length := by
  unfold succs
  rw [List.length_map]
  exact List.length_filter_le _ _

/-- how far the region has come -/
def OutsPh (W : World) (base r : Nat) (l : AL) (f : Int → List Int) (x y : Int) (b9 b10 b11 : Bool) (vb : Value) (w' : World) : Prop :=
  match b9, b10, b11 with
  | false, false, false => w' = W
  | true, false, false => w' = W.alloc (.cells #[.int .i64 y] 3)
  | true, true, false => w'.ownsRow base 3 1 vb ((f x).length + 1) (ints (f x) ++ [.int .i64 y]) ∧ Chg (fun k => base ≤ k ∧ ((l.get x).getD (.slice none 0 0)).ownBlock = some k) W w' ∧
      (vb.ownBlock = ((l.get x).getD (.slice none 0 0)).ownBlock ∨ vb.ownBlock = some (W.heap.size + 1))
  | true, true, true => ∃ w1, (w1.ownsRow base 3 1 vb ((f x).length + 1) (ints (f x) ++ [.int .i64 y]) ∧ Chg (fun k => base ≤ k ∧ ((l.get x).getD (.slice none 0 0)).ownBlock = some k) W w1 ∧
      (vb.ownBlock = ((l.get x).getD (.slice none 0 0)).ownBlock ∨ vb.ownBlock = some (W.heap.size + 1))) ∧ MapAt w' r (l.put x vb) ∧ Chg (fun i => i = r) w1 w'
  | _, _, _ => False

theorem OutsPh.cell {W : World} {base r : Nat} {l : AL} {f : Int → List Int} {x y : Int} {b9 b10 : Bool} {vb : Value} {w' : World} (h : OutsPh W base r l f x y b9 b10 false vb w') (hg : GroupsAt W base r l f) {a : Addr} {u : Value} (hc : W.cell? a = some u)
    (hne : ((l.get x).getD (.slice none 0 0)).ownBlock ≠ some a.block) : w'.cell? a = some u := by
  cases b9 <;> cases b10 <;> simp only [OutsPh] at h
  · subst h; exact hc
  · subst h; exact (Chg.alloc (fun _ => False) _ _).cell hc id
  · exact h.2.1.cell hc (fun hh => hne hh.2)

def OutsPost (w : World) (ps : List (Int × Int)) (e : Ending) (w' : World) : Prop :=
  ∃ r l, e = .returned (.map (some r)) ∧ w.heap.size ≤ r ∧ GroupsAt w' w.heap.size r l (succs ps) ∧ (∀ k, k ∈ l.keys ↔ IsNum ps k) ∧ Chg (fun _ => False) w w'

set_option maxHeartbeats 1000000 in
theorem outs_any {w : World} {v : Value} {ps : List (Int × Int)} {B : Nat} (hp : PairsAt w B v ps) (hl : ps.length ≤ 1000) :
    Calls Try.prog 19 #[v] w (OutsPost w ps) := by
  obtain ⟨ao, cap, rfl, -⟩ := id hp
  have HP := Lib.hid hp; clear hp
  have hmm := @run_makeMap Try.prog
  go_enter Try.func19, Try.ntmps19
  go_wp2
  go_loopw [11] (fun i wr => ∃ (k : Nat) (l : AL), k ≤ ps.length ∧ i = .int .i64 k ∧ Chg (fun _ => False) w wr ∧ GroupsAt wr w.heap.size w.heap.size l (succs (ps.take k)) ∧ (∀ z, z ∈ l.keys ↔ IsNum (ps.take k) z)) (fun i _ => ps.length - (intOf i).toNat)
  case atStart => exact ⟨0, [], Nat.zero_le _, rfl, Chg.alloc _ _ _, GroupsAt.nil (MapAt.made w), by simp [AL.keys, IsNum]⟩
  case round =>
    obtain ⟨k, l, hk, rfl, hc, hg, hks⟩ := hrel
    have HC := Lib.hid hc; clear hc
    have HG := Lib.hid hg; clear hg
    have HKS := Lib.hid hks; clear hks
    have hrlt : w.heap.size < wr.heap.size := HG.out.map.lt
    by_cases hlt : k < ps.length
    · obtain ⟨ao', cap', hv', hcells⟩ := HP.out
      obtain ⟨b, off, rfl, hbB, c1, c2⟩ := hcells k _ (List.getElem?_eq_getElem hlt)
      cases hv'
      clear hcells
      have c1' := HC.out.cell c1 id
      have c2' := HC.out.cell c2 id
      clear c1 c2
      obtain ⟨⟨x, y⟩, hx⟩ : ∃ x, ps[k] = x := ⟨_, rfl⟩
      rw [hx] at c1' c2'
      simp only at c1' c2'
      have E : Hid (ps.take (k+1) = ps.take k ++ [(x, y)]) := by show _ = _; rw [List.take_succ_eq_append_getElem hlt, hx]
      clear hx
      go_wp2_with fail
      have HGW : Hid (GroupsAt (wr.alloc (Obj.cells #[Value.int IntKind.i64 x, Value.int IntKind.i64 y] 30)).drew w.heap.size w.heap.size l (succs (ps.take k))) :=
        HG.out.chg ((Chg.alloc (fun _ => False) _ _).trans (Chg.drew _ _)) id (fun _ _ _ => id)
      have HCW : Hid (Chg (fun _ => False) w (wr.alloc (Obj.cells #[Value.int IntKind.i64 x, Value.int IntKind.i64 y] 30)).drew) := HC.out.trans ((Chg.alloc (fun _ => False) _ _).trans (Chg.drew _ _))
      have CE0 : Hid ((wr.alloc (Obj.cells #[Value.int IntKind.i64 x, Value.int IntKind.i64 y] 30)).drew.cell? ⟨wr.heap.size, 0, none⟩ = some (.int .i64 x)) := by show _ = _; simp
      have CE1 : Hid ((wr.alloc (Obj.cells #[Value.int IntKind.i64 x, Value.int IntKind.i64 y] 30)).drew.cell? ⟨wr.heap.size, 1, none⟩ = some (.int .i64 y)) := by show _ = _; simp
      have HNE : Hid (((l.get x).getD (.slice none 0 0)).ownBlock ≠ some wr.heap.size) := by
        intro e
        have := (HG.out.row x).lt _ e
        omega
      have hWs : (wr.alloc (Obj.cells #[Value.int IntKind.i64 x, Value.int IntKind.i64 y] 30)).drew.heap.size = wr.heap.size + 1 := by simp
      obtain ⟨W, hW⟩ : ∃ W, (wr.alloc (Obj.cells #[Value.int IntKind.i64 x, Value.int IntKind.i64 y] 30)).drew = W := ⟨_, rfl⟩
      rw [hW] at HGW CE0 CE1 HCW hWs
      have HW := Lib.hid hW; clear hW
      have HWS := Lib.hid hWs; clear hWs
      obtain ⟨F, hF⟩ : ∃ F : Bool → Bool → Bool → Bool → Bool → Bool → Bool → Bool → Bool → Bool → Bool → Value → Act, F = (fun b0 b1 b2 b3 b4 b5 b6 b7 b8 b9 b10 vb => ⟨((Value.slice (some { block := b, off := off }) ps.length cap) :: (undef) :: (Value.map none) :: (Value.map (some w.heap.size)) :: (undef) :: (Value.pointer (some { block := wr.heap.size, off := 0 })) :: (u6) :: (u7) :: (Value.map (some w.heap.size)) :: (Value.slice (some { block := b, off := off }) ps.length cap) :: (Value.int IntKind.i64 ↑ps.length) :: (Value.int IntKind.i64 ↑k) :: (Value.bool true) :: (Value.pointer (some { block := b, off := off + k * 2 })) :: (Value.agg #[Value.int IntKind.i64 x, Value.int IntKind.i64 y]) :: sel b0 (Value.map (some w.heap.size)) u15 :: sel b1 (Value.pointer (some { block := wr.heap.size, off := 0 })) u16 :: sel b2 (.int .i64 x) u17 :: sel b3 (Value.map (some w.heap.size)) u18 :: sel b4 (Value.pointer (some { block := wr.heap.size, off := 0 })) u19 :: sel b5 (.int .i64 x) u20 :: sel b6 ((l.get x).getD (.slice none 0 0)) u21 :: sel b7 (Value.pointer (some { block := wr.heap.size, off := 1 })) u22 :: sel b8 (.int .i64 y) u23 :: sel b9 (.slice (some ⟨W.heap.size, 0, none⟩) 1 1) u24 :: sel b10 (vb) u25 :: (u26) :: (u27) :: (u28) :: (u29) :: (u30) :: (u31) :: (u32) :: (u33) :: (u34) :: (u35) :: (u36) :: (u37) :: (u38) :: (undef) :: []).toArray, []⟩) := ⟨_, rfl⟩
      have HF := Lib.hid hF; clear hF
      refine wp_region_inv Try.mixed ?_ (fun L a w' => ∃ b0 b1 b2 b3 b4 b5 b6 b7 b8 b9 b10 b11 vb, L = #[b0, b1, b2, b3, b4, b5, b6, b7, b8, b9, b10, b11] ∧ a = F b0 b1 b2 b3 b4 b5 b6 b7 b8 b9 b10 vb ∧
        OutsPh W w.heap.size w.heap.size l (succs (ps.take k)) x y b9 b10 b11 vb w' ∧ (b11 = true → b0 = true ∧ b1 = true ∧ b2 = true ∧ b3 = true ∧ b4 = true ∧ b5 = true ∧ b6 = true ∧ b7 = true ∧ b8 = true ∧ b9 = true ∧ b10 = true) ∧ (b10 = true → b6 = true)) ?_ ?_ ?_
      · intro i o ho
        have hi : i < 12 := by simpa using (Array.getElem?_eq_some_iff.1 ho).1
        rcases (by omega : i = 0 ∨ i = 1 ∨ i = 2 ∨ i = 3 ∨ i = 4 ∨ i = 5 ∨ i = 6 ∨ i = 7 ∨ i = 8 ∨ i = 9 ∨ i = 10 ∨ i = 11) with rfl | rfl | rfl | rfl | rfl | rfl | rfl | rfl | rfl | rfl | rfl | rfl <;> (simp at ho; subst ho; simp [Region.binds])
      · refine ⟨false, false, false, false, false, false, false, false, false, false, false, false, undef, rfl, ?_, ?_⟩
        · rw [HF.out]; rfl
        · refine ⟨?_, by simp, by simp⟩
          rw [HW.out]; rfl
      · intro L a' w' i o hI hLi ho hdep
        obtain ⟨b0, b1, b2, b3, b4, b5, b6, b7, b8, b9, b10, b11, vb, rfl, rfl, hph, hall, h106⟩ := hI
        have hi : i < 12 := by simpa using (Array.getElem?_eq_some_iff.1 ho).1
        have ho' := ho
        have hL0 := hLi
        rcases (by omega : i = 0 ∨ i = 1 ∨ i = 2 ∨ i = 3 ∨ i = 4 ∨ i = 5 ∨ i = 6 ∨ i = 7 ∨ i = 8 ∨ i = 9 ∨ i = 10 ∨ i = 11) with rfl | rfl | rfl | rfl | rfl | rfl | rfl | rfl | rfl | rfl | rfl | rfl <;> (simp at ho'; subst ho'; simp at hLi; subst hLi; simp [Region.binds] at hdep)
        · have h11 : b11 = false := by cases b11; rfl; simp at hall
          subst h11
          clear hall
          refine wpOp_k fun K hK => wpOp_of_wp ho rfl ?_
          rw [HF.out]
          have HPH := Lib.hid hph; clear hph ho hL0
          simp only [sel_false]
          go_wp2
          exact ⟨true, b1, b2, b3, b4, b5, b6, b7, b8, b9, b10, false, vb, rfl, by rw [HF.out]; rfl, HPH.out, by simp, h106⟩
        · have h11 : b11 = false := by cases b11; rfl; simp at hall
          subst h11
          clear hall
          refine wpOp_k fun K hK => wpOp_of_wp ho rfl ?_
          rw [HF.out]
          have HPH := Lib.hid hph; clear hph ho hL0
          simp only [sel_false]
          go_wp2
          exact ⟨b0, true, b2, b3, b4, b5, b6, b7, b8, b9, b10, false, vb, rfl, by rw [HF.out]; rfl, HPH.out, by simp, h106⟩
        · have h11 : b11 = false := by cases b11; rfl; simp at hall
          subst h11
          clear hall
          subst hdep
          have cw := hph.cell HGW.out CE0.out HNE.out
          refine wpOp_k fun K hK => wpOp_of_wp ho rfl ?_
          rw [HF.out]
          have HPH := Lib.hid hph; clear hph ho hL0
          simp only [sel_true, sel_false]
          go_wp2
          exact ⟨b0, true, true, b3, b4, b5, b6, b7, b8, b9, b10, false, vb, rfl, by rw [HF.out]; rfl, HPH.out, by simp, h106⟩
        · have h11 : b11 = false := by cases b11; rfl; simp at hall
          subst h11
          clear hall
          refine wpOp_k fun K hK => wpOp_of_wp ho rfl ?_
          rw [HF.out]
          have HPH := Lib.hid hph; clear hph ho hL0
          simp only [sel_false]
          go_wp2
          exact ⟨b0, b1, b2, true, b4, b5, b6, b7, b8, b9, b10, false, vb, rfl, by rw [HF.out]; rfl, HPH.out, by simp, h106⟩
        · have h11 : b11 = false := by cases b11; rfl; simp at hall
          subst h11
          clear hall
          refine wpOp_k fun K hK => wpOp_of_wp ho rfl ?_
          rw [HF.out]
          have HPH := Lib.hid hph; clear hph ho hL0
          simp only [sel_false]
          go_wp2
          exact ⟨b0, b1, b2, b3, true, b5, b6, b7, b8, b9, b10, false, vb, rfl, by rw [HF.out]; rfl, HPH.out, by simp, h106⟩
        · have h11 : b11 = false := by cases b11; rfl; simp at hall
          subst h11
          clear hall
          subst hdep
          have cw := hph.cell HGW.out CE0.out HNE.out
          refine wpOp_k fun K hK => wpOp_of_wp ho rfl ?_
          rw [HF.out]
          have HPH := Lib.hid hph; clear hph ho hL0
          simp only [sel_true, sel_false]
          go_wp2
          exact ⟨b0, b1, b2, b3, true, true, b6, b7, b8, b9, b10, false, vb, rfl, by rw [HF.out]; rfl, HPH.out, by simp, h106⟩
        · have h11 : b11 = false := by cases b11; rfl; simp at hall
          subst h11
          clear hall
          obtain ⟨rfl, rfl⟩ := hdep
          have h10 : b10 = false := by cases b10; rfl; simp at h106
          subst h10
          clear h106
          have hg' : GroupsAt w' w.heap.size w.heap.size l (succs (ps.take k)) := by
            cases b9 <;> simp only [OutsPh] at hph
            · subst hph; exact HGW.out
            · subst hph; exact HGW.out.chg (Chg.alloc (fun _ => False) _ _) id (fun _ _ _ => id)
          have hlk := hg'.map.run_lookup (P := Try.prog) Try.underlying41 Try.underlying3 (zero24 _) x
          refine wpOp_k fun K hK => wpOp_of_wp ho rfl ?_
          rw [HF.out]
          have HPH := Lib.hid hph; clear hph ho hL0 hg'
          simp only [sel_true, sel_false]
          go_wp2
          exact ⟨b0, b1, b2, true, b4, true, true, b7, b8, b9, false, false, vb, rfl, by rw [HF.out]; rfl, HPH.out, by simp, by simp⟩
        · have h11 : b11 = false := by cases b11; rfl; simp at hall
          subst h11
          clear hall
          refine wpOp_k fun K hK => wpOp_of_wp ho rfl ?_
          rw [HF.out]
          have HPH := Lib.hid hph; clear hph ho hL0
          simp only [sel_false]
          go_wp2
          exact ⟨b0, b1, b2, b3, b4, b5, b6, true, b8, b9, b10, false, vb, rfl, by rw [HF.out]; rfl, HPH.out, by simp, h106⟩
        · have h11 : b11 = false := by cases b11; rfl; simp at hall
          subst h11
          clear hall
          subst hdep
          have cw := hph.cell HGW.out CE1.out HNE.out
          refine wpOp_k fun K hK => wpOp_of_wp ho rfl ?_
          rw [HF.out]
          have HPH := Lib.hid hph; clear hph ho hL0
          simp only [sel_true, sel_false]
          go_wp2
          exact ⟨b0, b1, b2, b3, b4, b5, b6, true, true, b9, b10, false, vb, rfl, by rw [HF.out]; rfl, HPH.out, by simp, h106⟩
        · have h11 : b11 = false := by cases b11; rfl; simp at hall
          subst h11
          clear hall
          subst hdep
          have h10 : b10 = false := by cases b10; rfl; simp only [OutsPh] at hph
          subst h10
          simp only [OutsPh] at hph
          subst hph
          refine wpOp_k fun K hK => wpOp_of_wp ho rfl ?_
          rw [HF.out]
          clear ho hL0
          simp only [sel_true, sel_false]
          go_wp2
          exact ⟨b0, b1, b2, b3, b4, b5, b6, b7, true, true, false, false, vb, rfl, by rw [HF.out]; rfl, rfl, by simp, by simp⟩
        · have h11 : b11 = false := by cases b11; rfl; simp at hall
          subst h11
          clear hall
          obtain ⟨rfl, rfl⟩ := hdep
          simp only [OutsPh] at hph
          subst hph
          obtain ⟨v', w2, hrun, ho2, hc2, hb2⟩ := run_app1 (P := Try.prog) (w0 := W) (t := 24) (ty := 24) Try.underlying24 Try.info3 rfl (by decide) (by decide) [.int .i64 y] (HGW.out.row x) rfl (by intro u hu; simp at hu; subst hu; rfl) (by have := length_succs (ps.take k) x; have := List.length_take_le k ps; omega) (by have := HWS.out; omega)
          refine wpOp_k fun K hK => wpOp_of_wp ho rfl ?_
          rw [HF.out]
          clear ho hL0
          simp only [sel_true, sel_false]
          unfold Oper.wp
          simp [execOp, resolve, invoke, builtin, Act.eval, hrun, Result.andThen, Oper.upon, Act.put]
          exact hK _ _ ⟨b0, b1, b2, b3, b4, b5, true, b7, b8, true, true, false, v', rfl, by rw [HF.out]; rfl, ⟨ho2, hc2, hb2⟩, by simp, by simp⟩
        · obtain ⟨rfl, rfl, rfl, -, rfl, -, rfl, rfl, rfl, rfl, rfl, rfl, rfl, -⟩ := hdep
          simp only [OutsPh] at hph
          obtain ⟨ho2, hc2, hb2⟩ := hph
          obtain ⟨w3, hrun, hm3, hc3, hs3⟩ := (HGW.out.others hc2).1.run_update (P := Try.prog) Try.underlying41 Try.underlying3 x vb
          refine wpOp_k fun K hK => wpOp_of_wp ho rfl ?_
          rw [HF.out]
          clear ho hL0 hall h106
          simp only [sel_true]
          unfold Oper.wp
          simp [execOp, Act.eval, hrun, Result.andThen, Oper.upon, Act.put]
          exact hK _ _ ⟨true, true, true, true, true, true, true, true, true, true, true, true, vb, rfl, by rw [HF.out]; rfl, ⟨w', ⟨ho2, hc2, hb2⟩, hm3, hc3⟩, by simp, by simp⟩
      · intro L a' w' hI hL
        obtain ⟨b0, b1, b2, b3, b4, b5, b6, b7, b8, b9, b10, b11, vb, rfl, rfl, hph, hall, h106⟩ := hI
        have h11 : b11 = true := by simpa using hL 11 (by simp)
        subst h11
        obtain ⟨rfl, rfl, rfl, rfl, rfl, rfl, rfl, rfl, rfl, rfl, rfl⟩ := hall rfl
        simp only [OutsPh] at hph
        obtain ⟨w1, ⟨ho2, hc2, hb2⟩, hm3, hc3⟩ := hph
        have HG3 := Lib.hid (HGW.out.put hc2 ho2 (hb2.imp id (fun h => ⟨_, h, by have := HWS.out; omega⟩)) hm3 hc3)
        have hc4 := (HCW.out.trans' hc2 (fun i hi h => by have := h.1; omega)).trans' hc3 (fun i hi h => by omega)
        have ce1 := hc3.cell (hc2.cell CE1.out (fun h => HNE.out h.2)) (fun h => by have h' : wr.heap.size = w.heap.size := h; omega)
        have HC4 := Lib.hid hc4
        clear ho2 hc2 hb2 hm3 hc3 hL hc4
        rw [HF.out]
        simp only [sel_true]
        have hlk := HG3.out.map.run_lookup_ok (P := Try.prog) Try.underlying41 Try.underlying3 (zero24 _) y
        have HKS3 : Hid (∀ z, z ∈ (l.put x vb).keys ↔ IsNum (ps.take k) z ∨ z = x) := by
          intro z
          rw [AL.keys_put]
          have hz := HKS.out z
          by_cases hxm : x ∈ l.keys
          · rw [if_pos hxm, hz]
            constructor
            · exact .inl
            · rintro (h | rfl)
              · exact h
              · exact (HKS.out z).1 hxm
          · rw [if_neg hxm, List.mem_append, hz]
            simp
        have HNUM : Hid (∀ z, IsNum (ps.take (k+1)) z ↔ IsNum (ps.take k) z ∨ z = x ∨ z = y) := by
          intro z
          rw [E.out]
          unfold IsNum
          constructor
          · rintro ⟨p, hp, h⟩
            rcases List.mem_append.1 hp with hp | hp
            · exact .inl ⟨p, hp, h⟩
            · simp at hp; subst hp
              exact .inr (h.imp Eq.symm Eq.symm)
          · rintro (⟨p, hp, h⟩ | h | h)
            · exact ⟨p, List.mem_append.2 (.inl hp), h⟩
            · exact ⟨(x, y), by simp, .inl h.symm⟩
            · exact ⟨(x, y), by simp, .inr h.symm⟩
        by_cases hym : y ∈ (l.put x vb).keys
        · obtain ⟨u, hu⟩ := AL.mem_keys.1 hym
          have HYM := Lib.hid hym; clear hym
          rw [hu] at hlk
          clear hu
          go_wp2
          go_roundw
          case rel =>
            refine ⟨k + 1, l.put x vb, by omega, by go_num, HC4.out, ?_, fun z => ?_⟩
            · rw [E.out, succs_snoc]; exact HG3.out
            · rw [HKS3.out, HNUM.out]
              constructor
              · rintro (h | h)
                · exact .inl h
                · exact .inr (.inl h)
              · rintro (h | h | h)
                · exact .inl h
                · exact .inr h
                · subst h; exact (HKS3.out z).1 HYM.out
          case measure => simp [intOf] <;> omega
        · have hu := AL.get_eq_none.2 hym
          have HYM := Lib.hid hym; clear hym
          rw [hu] at hlk
          clear hu
          go_wp2_with (at_mapUpdate; refine wpList_mapPut rfl _ _ _ 41 rfl Try.underlying41 Try.underlying3 rfl HG3.out.map rfl rfl ?_; intro w5 hm5 hc5 hs5; have HM5 := Lib.hid hm5; have HC5 := Lib.hid hc5; clear hm5 hc5 hs5)
          go_roundw
          case rel =>
            refine ⟨k + 1, (l.put x vb).put y (.slice none 0 0), by omega, by go_num, HC4.out.trans' HC5.out (fun i hi h => by omega), ?_, fun z => ?_⟩
            · rw [E.out, succs_snoc]; exact HG3.out.putNil HYM.out HM5.out HC5.out
            · rw [AL.keys_put, if_neg HYM.out, List.mem_append, HKS3.out, HNUM.out]
              simp only [List.mem_singleton, or_assoc]
          case measure => simp [intOf] <;> omega
    · go_wp2
      go_ret
      have hkk : ps.take k = ps := List.take_of_length_le (by omega)
      have h1 := HG.out
      have h2 := HKS.out
      rw [hkk] at h1 h2
      exact ⟨_, l, rfl, Nat.le_refl _, h1, h2, HC.out⟩
end Go.Proofs.Ytochkamjfmdmoaa
