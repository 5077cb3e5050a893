/- Walks: Order. -/
import Derived.Test.YtochkamjfmdmoaaOb
namespace Go.Proofs.Ytochkamjfmdmoaa
open Go.RowKit

set_option maxHeartbeats 2000000 in
theorem order_any {w : World} {v : Value} {ps : List (Int × Int)} {B : Nat} (hp : PairsAt w B v ps) (hl : ps.length ≤ 1000) :
    Calls Try.prog 8 #[v] w (OrderPost w ps) := by
  have HP := Lib.hid hp; clear hp
  have hmm := @run_makeMap Try.prog
  have HRI := Lib.hid (rings_any HP.out hl)
  go_enter Try.func8, Try.ntmps8
  go_wp2_with (go_at_call 18; refine HRI.out.mono ?_; rintro e w1 ⟨r, rfl, hr, ⟨l, hm, hall⟩, hc⟩; have hlen := hm.run_len (P := Try.prog) Try.underlying38 3; have HA := Lib.hid hall; have HC := Lib.hid hc; clear hm hall hc)
  · have hpos : 0 < l.length := by assumption
    go_ret2
    refine ⟨_, [], false, rfl, World.ownsRow_nil _ _ _ _, by simp, HC.out, fun _ => ⟨rfl, ?_⟩, by simp⟩
    cases l with
    | nil => simp at hpos
    | cons p t =>
      refine ⟨p.1, ?_⟩
      rcases HA.out p.1 with ⟨_, h2⟩ | ⟨h1, _⟩
      · exact h2
      · simp [AL.get] at h1
  · have hpos : ¬ 0 < l.length := by assumption
    have HAC : Hid (∀ x, ¬ Tr ps x x) := by
      intro x
      have hl0 : l = [] := List.eq_nil_of_length_eq_zero (by omega)
      rcases HA.out x with ⟨h1, _⟩ | ⟨_, h2⟩
      · rw [hl0] at h1; simp [AL.get] at h1
      · exact h2
    clear hpos HA hlen HRI
    have hcA : Chg (fun _ => False) w1 ((w1.alloc (Obj.map #[] 0)).alloc (Obj.map #[] 0)) := (Chg.alloc _ w1 _).trans (Chg.alloc _ _ _)
    have HCA : Hid (Chg (fun _ => False) w ((w1.alloc (Obj.map #[] 0)).alloc (Obj.map #[] 0))) := HC.out.trans hcA
    have HMW : Hid (MapAt ((w1.alloc (Obj.map #[] 0)).alloc (Obj.map #[] 0)) w1.heap.size []) := (MapAt.made w1).chg (Chg.alloc (fun _ => False) _ _) id
    have HMB : Hid (MapAt ((w1.alloc (Obj.map #[] 0)).alloc (Obj.map #[] 0)) (w1.heap.size + 1) []) := (show MapAt _ _ _ from by have := MapAt.made (w1.alloc (Obj.map #[] 0)); simpa using this)
    have hsz : ((w1.alloc (Obj.map #[] 0)).alloc (Obj.map #[] 0)).heap.size = w1.heap.size + 2 := by simp
    have hwA : w.heap.size ≤ w1.heap.size := HC.out.size
    obtain ⟨A, hA⟩ : ∃ A, w1.heap.size = A := ⟨_, rfl⟩
    rw [hA] at HMW HMB hsz hwA ⊢
    obtain ⟨wa, hwa⟩ : ∃ wa, (w1.alloc (Obj.map #[] 0)).alloc (Obj.map #[] 0) = wa := ⟨_, rfl⟩
    rw [hwa] at HCA HMW HMB hsz ⊢
    have HSZ := Lib.hid hsz
    clear hcA hA hwa HC hsz
    refine (outs_any (HP.out.new HCA.out) hl).mono ?_
    rintro e w2 ⟨mo, lo, rfl, hmo, hg, hks, hc⟩
    rw [HSZ.out] at hmo hg
    have hmo2 : A + 2 ≤ mo := hmo
    have hX : mo < w2.heap.size := hg.map.lt
    have HGO := Lib.hid hg; have HKS := Lib.hid hks; have HC2 := Lib.hid (HCA.out.trans hc); have HMW2 := Lib.hid (HMW.out.chg hc id); have HMB2 := Lib.hid (HMB.out.chg hc id)
    clear hg hks hc hmo HMW HMB HCA HSZ
    go_wp2_with (at_range; refine wpList_rangeM rfl _ 41 rfl Try.underlying41 rfl HGO.out.map ?_)
    intro w3 hit hc3 hs3
    have HIT := Lib.hid hit; have HC3 := Lib.hid (HC2.out.trans hc3)
    have HOM : Hid (OMem w3 A w2.heap.size mo lo (succs ps) [] [] (fun _ => []) (fun _ => [])) :=
      ⟨fun k => ⟨ownsRow_chg (HGO.out.row k) hc3 (fun _ _ => id), fun g hg => ((HGO.out.row k).lt g hg).2⟩, WantsAt.nil (HMW2.out.chg hc3 id) (by omega) _, GroupsAt.nil (HMB2.out.chg hc3 id), by omega, hmo2, hX⟩
    clear hit hc3 hs3 HMW2 HMB2 HC2 HGO
    obtain ⟨X, hXX⟩ : ∃ X, w2.heap.size = X := ⟨_, rfl⟩
    rw [hXX] at HIT HOM hX ⊢
    clear hXX
    go_wp2_with fail
    -- PHASE 1: wants, back
    go_loopg [] (lo.length + 1) (fun g wr => ∃ (done : List Int) (lw lb : AL) (W f : Int → List Int), IterAt wr mo X lo done ∧ OMem wr A X mo lo (succs ps) lw lb W f ∧
      (∀ k, k ∈ lw.keys ↔ k ∈ done) ∧ (∀ k ∈ done, W k = dd (succs ps k)) ∧ FS ps done f ∧ Chg (fun _ => False) w wr ∧ lo.length - done.length < g)
    case atStart => exact ⟨[], [], [], fun _ => [], fun _ => [], HIT.out, HOM.out, by simp [AL.keys], by simp, fun m => by simp, HC3.out, by simp⟩
    case round =>
      clear HIT HOM HC3
      obtain ⟨done, lw, lb, W, f, hit, hom, hlk, hW, hf, hc, hlt⟩ := hrel
      have HIT := Lib.hid hit; have HOM := Lib.hid hom; have HLK := Lib.hid hlk; have HW := Lib.hid hW; have HF := Lib.hid hf; have HC := Lib.hid hc; have HLT := Lib.hid hlt
      clear hit hom hlk hW hf hc hlt
      go_wp2_with (at_next; refine wpList_nextM rfl _ rfl rfl HIT.out ?_ ?_)
      · intro hd
        have HD := Lib.hid hd; clear hd
        have hX4 : X < wr.heap.size := HOM.out.size
        have hlbF : ∀ k v g, lb.get k = some v → v.ownBlock = some g → g < wr.heap.size := fun k v g hk hg => ((HOM.out.back.rows k v hk).lt g hg).2
        have HLBF := Lib.hid hlbF; clear hlbF HIT
        obtain ⟨W4, hW4⟩ : ∃ W, wr.alloc (.cells #[.slice none 0 0] 43) = W := ⟨_, rfl⟩
        have HOM4 : Hid (OMem W4 A X mo lo (succs ps) lw lb W f) := (show OMem _ _ _ _ _ _ _ _ _ _ from by rw [← hW4]; exact HOM.out.new (Chg.alloc _ _ _))
        have HC4 : Hid (Chg (fun _ => False) w W4) := (show Chg _ _ _ from by rw [← hW4]; exact HC.out.trans (Chg.alloc _ _ _))
        have hS4 : W4.heap.size = wr.heap.size + 1 := by rw [← hW4]; simp
        have HF4 : Hid (W4.heap[wr.heap.size]? = some (.cells #[.slice none 0 0] 43)) := (show _ = _ from by rw [← hW4, heap_alloc_if, if_pos rfl])
        go_wp2_with (at_range; refine wpList_rangeM rfl _ 40 rfl Try.underlying40 rfl HOM4.out.wants.map ?_)
        intro w5 hit5 hc5 hs5
        have HIT5 := Lib.hid hit5; have HCC5 := Lib.hid hc5; have HS5 := Lib.hid hs5; clear hit5 hc5 hs5
        obtain ⟨F, hF⟩ : ∃ F, wr.heap.size = F := ⟨_, rfl⟩
        rw [hF] at hX4 HLBF HF4 HIT5 HS5 ⊢
        have HHM : Hid (HMem w5 F (.slice none 0 0) (.slice none 0 0) [] []) := ⟨⟨HCC5.out.heap HF4.out id, World.ownsRow_nil _ _ _ _⟩, by simp [Value.ownBlock], World.ownsRow_nil _ _ _ _, by simp [Value.ownBlock], by have := HS5.out; omega⟩
        have HOM5 := Lib.hid (HOM4.out.new HCC5.out)
        have HC5 := Lib.hid (HC4.out.trans HCC5.out)
        have HKN : Hid (∀ k, k ∈ lw.keys ↔ k ∈ nums ps) := (show ∀ k, _ from fun k => by rw [HLK.out, ← HD.out, HKS.out, mem_nums])
        have HWN : Hid (∀ k ∈ nums ps, W k = dd (succs ps k)) := (show ∀ k ∈ nums ps, _ from fun k hk => HW.out k ((HLK.out k).1 ((HKN.out k).2 hk)))
        have HFN : Hid (∀ m, (f m).Nodup ∧ ∀ z, z ∈ f m ↔ (z, m) ∈ ps) := (show ∀ m, _ from fun m => ⟨(HF.out m).1, fun z => by
          rw [(HF.out m).2]
          constructor
          · exact fun h => h.2
          · exact fun h => ⟨(HLK.out z).1 ((HKN.out z).2 (mem_nums.2 ⟨_, h, .inl rfl⟩)), h⟩⟩)
        have hwF : w.heap.size ≤ F := by omega
        have hAF : A < F := by omega
        clear hF hS4 hW4 HCC5 HF4 HC4 HOM4 HS5 HOM HC HLK HD HKS HW HF HLT hX
        -- PHASE 2: the heap's first numbers
        go_wp2_with fail
        go_loopg [] (lw.length + 1) (fun g wr => ∃ (dn : List Int) (sv : Value) (lh : List Int), IterAt wr A (F + 1) lw dn ∧ OMem wr A X mo lo (succs ps) lw lb W f ∧ HMem wr F sv (.slice none 0 0) lh [] ∧ lh.Nodup ∧ (∀ k, k ∈ lh ↔ k ∈ dn ∧ W k = []) ∧ Chg (fun _ => False) w wr ∧ lw.length - dn.length < g)
        case atStart => exact ⟨[], _, [], HIT5.out, HOM5.out, HHM.out, by simp, by simp, HC5.out, by simp⟩
        case round =>
          clear HIT5 HOM5 HHM HC5
          obtain ⟨dn, sv, lh, hit, hom, hhm, hnd, hmem, hc, hlt⟩ := hrel
          have HIT := Lib.hid hit; have HOM := Lib.hid hom; have HHM := Lib.hid hhm; have HND2 := Lib.hid hnd; have HMEM := Lib.hid hmem; have HC := Lib.hid hc; have HLT := Lib.hid hlt
          clear hit hom hhm hnd hmem hc hlt
          have hlen : lh.length ≤ 2 * ps.length := Nat.le_trans (nodup_length_le HND2.out (fun x hx => (HKN.out x).1 (HIT.out.sub.2.1 x ((HMEM.out x).1 hx).1))) (length_nums ps)
          go_wp2_with (at_next; refine wpList_nextM rfl _ rfl rfl HIT.out ?_ ?_)
          · intro hd
            have HQ0 : Hid (∀ l', l'.Perm lh → QInv ps [] l' W) := (show ∀ l', l'.Perm lh → QInv ps [] l' W from fun l' hpm => ⟨hpm.nodup_iff.2 HND2.out, fun x => by
                rw [hpm.mem_iff, HMEM.out, ← hd, HKN.out, readyB_iff]
                constructor
                · rintro ⟨a, b⟩
                  refine ⟨a, by simp, fun y hy => ?_⟩
                  rw [HWN.out x a] at b
                  have : y ∈ dd (succs ps x) := mem_dd.2 (mem_succs.2 hy)
                  rw [b] at this
                  simp at this
                · rintro ⟨a, _, c⟩
                  refine ⟨a, ?_⟩
                  rw [HWN.out x a, List.eq_nil_iff_forall_not_mem]
                  intro y hy
                  have := c y (mem_succs.1 (mem_dd.1 hy))
                  simp at this, fun x hx y => by rw [HWN.out x hx, mem_dd, mem_succs]; simp⟩)
            have HINI := Lib.hid (init_any HHM.out.heap (by omega))
            clear hd HIT
            go_wp2_with (go_at_call 20; refine HINI.out.mono ?_; rintro e w6 ⟨rfl, l6, hpm6, hhf6, hha6, hch6⟩; have HQ6 := Lib.hid (HQ0.out l6 hpm6); have HHF6 := Lib.hid hhf6; have HHM6 := Lib.hid (HHM.out.step hha6 hch6); have HOM6 := Lib.hid (HOM.out.heap HHM.out hX4 HLBF.out hch6.chg); have HC6 := Lib.hid (HC.out.trans' hch6.chg (fun i hi e => e.elim (by omega) (fun e => by have := HHM.out.svb _ e; omega))); clear hpm6 hhf6 hha6 hch6)
            clear HINI HQ0 HHM HOM HC HND2 HMEM HLT hlen
            -- PHASE 3: the answer
            go_loopg [12] ((nums ps).length + 1) (fun g vo wr => ∃ (out : List Int) (sv : Value) (lh : List Int) (W : Int → List Int), OMem wr A X mo lo (succs ps) lw lb W f ∧ HMem wr F sv vo lh out ∧ HeapFrom lh lh.length 0 ∧ GInv ps out ∧ QInv ps out lh W ∧ Chg (fun _ => False) w wr ∧ (nums ps).length - out.length < g)
            case atStart => exact ⟨[], _, l6, W, HOM6.out, HHM6.out, HHF6.out, GInv.nil ps, HQ6.out, HC6.out, by simp⟩
            case round =>
              clear HHF6 HHM6 HOM6 HC6 HQ6
              obtain ⟨out, sv, lh, W, hom, hhm, hhf, hg, hq, hc, hlt⟩ := hrel
              have HOM := Lib.hid hom; have HHM := Lib.hid hhm; have HHF := Lib.hid hhf; have HG := Lib.hid hg; have HQ := Lib.hid hq; have HC := Lib.hid hc; have HLT := Lib.hid hlt
              clear hom hhm hhf hg hq hc hlt
              have hlen : lh.length ≤ 2 * ps.length := Nat.le_trans (nodup_length_le HQ.out.nd (fun x hx => ((HQ.out.mem x).1 hx).1)) (length_nums ps)
              have hol : out.length ≤ 2 * ps.length := Nat.le_trans HG.out.len (length_nums ps)
              obtain ⟨ah, hcap, rfl⟩ := owned_slice HHM.out.heap.row
              obtain ⟨av, vcap, rfl⟩ := owned_slice HHM.out.row
              have cS := cell_of_heap HHM.out.heap.cell
              by_cases h0 : 0 < lh.length
              · have HPOP := Lib.hid (hpop_any HHM.out.heap (by omega) h0 HHF.out)
                have HPK := Lib.hid (HQ.out.pick HHF.out h0)
                unfold HPopPost at HPOP
                obtain ⟨x0, hx0⟩ : ∃ x, el lh 0 = x := ⟨_, rfl⟩
                rw [hx0] at HPOP HPK
                clear hx0
                have hta : ∀ w, (Instr.typeAssert (.iface 3 (.int .i64 x0)) 20 3 false).run Try.prog w = .ok (.int .i64 x0) w := fun _ => by kernel_rfl
                obtain ⟨ar, rcap, hr⟩ := owned_slice (HOM.out.back.row x0)
                have HR := Lib.hid hr; clear hr
                have hfl : (f x0).length ≤ 2 * ps.length := Nat.le_trans (nodup_length_le (HFN.out x0).1 (fun z hz => mem_nums.2 ⟨_, ((HFN.out x0).2 z).1 hz, .inl rfl⟩)) (length_nums ps)
                go_wp2_with (first
                  | (go_at_call 21; refine HPOP.out.mono ?_; rintro e w6 ⟨rfl, sv6, l6, hpm6, hhf6, hha6, hch6⟩; have HQ6 := Lib.hid (HQ.out.pop hpm6); have HHF6 := Lib.hid hhf6; have HHM6 := Lib.hid (HHM.out.step hha6 hch6); have HOM6 := Lib.hid (HOM.out.heap HHM.out hX4 HLBF.out hch6.chg); have HC6 := Lib.hid (HC.out.trans' hch6.chg (fun i hi e => e.elim (by omega) (fun e => by have := HHM.out.svb _ e; omega))); clear hpm6 hhf6 hha6 hch6 cS)
                  | (at_builtin; refine wpList_app2 (v := .slice av out.length vcap) rfl (.tmp 81) (.tmp 83) 24 rfl Try.underlying24 Try.info3 rfl (by decide) (by decide) [.int .i64 x0] rfl rfl HHM6.out.row rfl rfl (by intro u hu; simp at hu; subst hu; rfl) (by omega) (by have := HHM6.out.size; omega) ?_; intro v7 w7 ho7 hc7 hb7; have HHM7 := Lib.hid (HHM6.out.put hc7 ho7 hb7); have HOM7 := Lib.hid (HOM6.out.ans HHM6.out hX4 HLBF.out hc7); have HC7 := Lib.hid (HC6.out.trans' hc7 (fun i hi e => by have := e.1; omega)); have hlk7 := HOM7.out.back.map.run_lookup (P := Try.prog) Try.underlying41 Try.underlying3 (zero24 _) x0; rw [HR.out] at hlk7; clear ho7 hc7 hb7))
                clear HHM6 HOM6 HC6 HHM HOM HC HPOP
                go_loopw [89] (fun i wr => ∃ (k : Nat) (sv : Value) (lh : List Int) (W : Int → List Int), k ≤ (f x0).length ∧ i = .int .i64 k ∧ OMem wr A X mo lo (succs ps) lw lb W f ∧ HMem wr F sv v7 lh (out ++ [x0]) ∧ HeapFrom lh lh.length 0 ∧ QIn ps out x0 ((f x0).take k) lh W ∧ Chg (fun _ => False) w wr) (fun i _ => (f x0).length - (intOf i).toNat)
                case atStart => exact ⟨0, _, l6, W, Nat.zero_le _, rfl, HOM7.out, HHM7.out, HHF6.out, HQ6.out, HC7.out⟩
                case round =>
                  clear HHF6 HHM7 HOM7 HC7 HQ6 HHF hlen
                  obtain ⟨k, sv, lh, W, hk, rfl, hom, hhm, hhf, hq, hc⟩ := hrel
                  have HOM := Lib.hid hom; have HHM := Lib.hid hhm; have HHF := Lib.hid hhf; have HQI := Lib.hid hq; have HC := Lib.hid hc
                  clear hom hhm hhf hq hc
                  have hlen : lh.length ≤ 2 * ps.length := Nat.le_trans (nodup_length_le HQI.out.nd (fun x hx => ((HQI.out.mem x).1 hx).1)) (length_nums ps)
                  by_cases hlt : k < (f x0).length
                  · obtain ⟨m, hm⟩ : ∃ m, (f x0)[k] = m := ⟨_, rfl⟩
                    have HTK : Hid ((f x0).take (k + 1) = (f x0).take k ++ [m]) := by show _ = _; rw [List.take_succ_eq_append_getElem hlt, hm]
                    have HMP : Hid ((m, x0) ∈ ps) := by show _ ∈ _; rw [← hm]; exact ((HFN.out x0).2 _).1 (List.getElem_mem _)
                    have HMT : Hid (m ∉ (f x0).take k) := (show ¬ _ from by
                      have h := (HFN.out x0).1.sublist (List.take_sublist (k + 1) _)
                      rw [HTK.out] at h
                      exact fun e => (List.nodup_append.1 h).2.2 m e m (by simp) rfl)
                    have hrow := HOM.out.back.row x0
                    rw [HR.out] at hrow
                    obtain ⟨ao', cap', hv', -, hcells⟩ := owned_ints (B := wr.heap.size) hrow (Nat.le_refl _)
                    obtain ⟨b', off, hb, -, cM⟩ := hcells k _ (List.getElem?_eq_getElem hlt)
                    rw [hm] at cM
                    cases hv'
                    subst hb
                    clear hcells hm hrow
                    obtain ⟨b, li, hb1, hb2, hb3, hb4, hb5⟩ := HOM.out.wants.at ((HKN.out m).2 (mem_nums.2 ⟨_, HMP.out, .inl rfl⟩))
                    have hlk1 := HOM.out.wants.map.run_lookup (P := Try.prog) Try.underlying40 Try.underlying3 (zero38 _) m
                    rw [hb1, Option.getD_some] at hlk1
                    have HB1 := Lib.hid hb1; have HMI := Lib.hid hb3
                    have HT2 : Hid (∀ x ∈ (li.del x0).keys, (li.del x0).get x = some (.bool true)) := (show ∀ x, _ from by
                      intro x hx
                      rw [AL.keys_del] at hx
                      obtain ⟨h1, h2⟩ := List.mem_filter.1 hx
                      rw [AL.get_del _ _ _ (by simpa using h2)]
                      exact hb5 x (by rw [← hb4]; exact h1))
                    have hll : (li.del x0).length = (li.del x0).keys.length := by simp [AL.keys]
                    have HDEL := Lib.hid (fun l' => HQI.out.del (lh' := l') (W' := fun z => if z = m then (li.del x0).keys else W z) HG.out (pick_some HPK.out).2.1 HAC.out HMP.out HMT.out (by intro y; simp only [if_true]; rw [AL.keys_del, List.mem_filter, hb4]; simp) (by intro z hz; simp only [if_neg hz]))
                    simp only [if_true] at HDEL
                    clear hb1 hb3 hb4 hb5
                    obtain ⟨w8, hrun8, hm8, hc8, -⟩ := HMI.out.run_delete (P := Try.prog) Try.underlying38 Try.underlying3 x0 0
                    have HOM8 := Lib.hid (HOM.out.turn HB1.out HMI.out hb2 hm8 hc8 HT2.out); have HHM8 := Lib.hid (HHM.out.map HMI.out hc8); have HC8 := Lib.hid (HC.out.trans' hc8 (fun i hi h => by have := HOM.out.wants.low; omega))
                    have hlk8 := HOM8.out.wants.map.run_lookup (P := Try.prog) Try.underlying40 Try.underlying3 (zero38 _) m
                    rw [HB1.out, Option.getD_some] at hlk8
                    have hln8 := hm8.run_len (P := Try.prog) Try.underlying38 3
                    clear hm8 hc8
                    by_cases hW0 : (li.del x0).keys = []
                    · have hl0 : (li.del x0).length = 0 := by rw [hll, hW0]; rfl
                      rw [hl0] at hln8
                      have HPU := Lib.hid (hpush_any (x := m) HHM8.out.heap (by omega) HHF.out)
                      have HW0 := Lib.hid hW0; clear hW0 hll
                      go_wp2_with (go_at_call 22; refine HPU.out.mono ?_; rintro e w9 ⟨rfl, sv9, l9, hpm9, hhf9, hha9, hch9⟩; have HPM9 := Lib.hid hpm9; have HHF9 := Lib.hid hhf9; have HHM9 := Lib.hid (HHM8.out.step hha9 hch9); have HOM9 := Lib.hid (HOM8.out.heap HHM8.out hX4 HLBF.out hch9.chg); have HC9 := Lib.hid (HC8.out.trans' hch9.chg (fun i hi e => e.elim (by omega) (fun e => by have := HHM8.out.svb _ e; omega))); clear hpm9 hhf9 hha9 hch9)
                      go_roundw
                      case rel => exact ⟨k + 1, sv9, l9, _, by omega, by go_num, HOM9.out, HHM9.out, HHF9.out, by rw [HTK.out]; exact (HDEL.out l9).2 HW0.out HPM9.out, HC9.out⟩
                      case measure => simp [intOf] <;> omega
                    · have hl0 : (((li.del x0).length : Int) == 0) = false := by
                        have : 0 < (li.del x0).length := by rw [hll]; exact List.length_pos_iff.2 hW0
                        exact beq_eq_false_iff_ne.2 (by omega)
                      have HW0 := Lib.hid hW0; clear hW0 hll
                      go_wp2
                      go_roundw
                      case rel => exact ⟨k + 1, sv, lh, _, by omega, by go_num, HOM8.out, HHM8.out, HHF.out, by rw [HTK.out]; exact (HDEL.out lh).1 HW0.out, HC8.out⟩
                      case measure => simp [intOf] <;> omega
                  · go_wp2
                    have hkk : (f x0).take k = f x0 := List.take_of_length_le (by omega)
                    have hq' := HQI.out
                    rw [hkk] at hq'
                    have hg' := HG.out.put HPK.out
                    have hgl := hg'.len
                    rw [List.length_append, List.length_singleton] at hgl
                    have HQ' := Lib.hid (hq'.fin (HFN.out x0).2); have HG' := Lib.hid hg'; have HGL := Lib.hid hgl
                    clear hkk hq' hg' hgl
                    go_roundg ((nums ps).length - (out.length + 1) + 1)
                    case measure => have h1 := HLT.out; have h2 := HGL.out; omega
                    case rel => exact ⟨out ++ [x0], sv, lh, W, HOM.out, HHM.out, HHF.out, HG'.out, HQ'.out, HC.out, by simp⟩
              · go_wp2
                go_ret2
                have hl0 : lh = [] := List.eq_nil_of_length_eq_zero (by omega)
                subst hl0
                exact ⟨_, out, true, rfl, ownsRow_base HHM.out.row (by omega), by omega, HC.out, by simp, fun _ => ⟨HAC.out, HG.out, HQ.out.all HG.out HAC.out⟩⟩
          · intro n vn w6 hget hnd6 hit6 hc6 hs6 hen
            have HIT6 := Lib.hid hit6; have HOM6 := Lib.hid (HOM.out.iter2 HIT.out hX4 HLBF.out hc6); have HHM6 := Lib.hid (HHM.out.iter hc6); have HC6 := Lib.hid (HC.out.trans' hc6 (fun i hi h => by omega)); have HNDD := Lib.hid hnd6
            have hsub := hit6.sub.2.2
            have HSUB := Lib.hid hsub
            clear hit6 hc6 hs6 hnd6 hsub HIT HOM HHM HC
            obtain ⟨b, li, hb1, hb2, hb3, hb4, hb5⟩ := HOM6.out.wants.at (AL.mem_keys.2 ⟨_, hget⟩)
            have hlk := HOM6.out.wants.map.run_lookup (P := Try.prog) Try.underlying40 Try.underlying3 (zero38 _) n
            rw [hget] at hb1
            cases hb1
            rw [hget, Option.getD_some] at hlk
            have hln := hb3.run_len (P := Try.prog) Try.underlying38 3
            have hll : li.length = (W n).length := by rw [← hb4]; simp [AL.keys]
            clear hb4 hb5 hb3 hget hb2
            by_cases hW0 : W n = []
            · rw [hll, hW0] at hln
              have HW0 := Lib.hid hW0; clear hW0 hll
              obtain ⟨ao, cap, rfl⟩ := owned_slice HHM6.out.heap.row
              have cS := cell_of_heap HHM6.out.heap.cell
              go_wp2_with (at_builtin; refine wpList_app2 (v := .slice ao lh.length cap) rfl (.tmp 69) (.tmp 71) 43 rfl Try.underlying43 Try.info3 rfl (by decide) (by decide) [.int .i64 n] rfl rfl HHM6.out.heap.row rfl rfl (by intro u hu; simp at hu; subst hu; rfl) (by omega) (Nat.zero_le _) ?_; intro v7 w7 ho7 hc7 hb7; obtain ⟨a7, c7, rfl⟩ := owned_slice ho7; have HG := Lib.hid (HHM6.out.grow hc7 ho7 hb7); have HF7 := hc7.heap HHM6.out.heap.cell (fun e => HHM6.out.heap.ne e.2); have c3 := cell_of_heap HF7; have f3 := frozen_of_heap HF7; clear ho7 hc7 hb7 HF7 cS)
              go_roundg (lw.length - (dn.length + 1) + 1)
              case measure => have h1 := HLT.out; have h2 := HSUB.out; simp at h2; omega
              case rel =>
                exact ⟨dn ++ [n], _, lh ++ [n], HIT6.out.chg HG.out.2.chg (fun e => e.elim (by omega) (fun e => by have := HHM6.out.svb _ e; omega)) (fun e => e.elim (by omega) (fun e => by have := HHM6.out.svb _ e; omega)),
                  HOM6.out.heap HHM6.out hX4 HLBF.out HG.out.2.chg, HHM6.out.step HG.out.1 HG.out.2, List.nodup_append.2 ⟨HND2.out, by simp, by
                    intro a ha b hb e
                    simp at hb; subst hb; subst e
                    exact HNDD.out ((HMEM.out _).1 ha).1⟩, by
                    intro k
                    rw [List.mem_append, List.mem_append, HMEM.out, List.mem_singleton]
                    constructor
                    · rintro (⟨a, b⟩ | rfl)
                      · exact ⟨.inl a, b⟩
                      · exact ⟨.inr rfl, HW0.out⟩
                    · rintro ⟨a | a, b⟩
                      · exact .inl ⟨a, b⟩
                      · exact .inr a, HC6.out.trans' HG.out.2.chg (fun i hi e => e.elim (by omega) (fun e => by have := HHM6.out.svb _ e; omega)), by simp⟩
            · have hl0 : (((W n).length : Int) == 0) = false := by
                have : 0 < (W n).length := List.length_pos_iff.2 hW0
                simp; omega
              rw [hll] at hln
              have HW0 := Lib.hid hW0; clear hW0 hll
              go_wp2
              go_roundg (lw.length - (dn.length + 1) + 1)
              case measure => have h1 := HLT.out; have h2 := HSUB.out; simp at h2; omega
              case rel =>
                exact ⟨dn ++ [n], sv, lh, HIT6.out, HOM6.out, HHM6.out, HND2.out, by
                    intro k
                    rw [List.mem_append, HMEM.out, List.mem_singleton]
                    constructor
                    · rintro ⟨a, b⟩; exact ⟨.inl a, b⟩
                    · rintro ⟨a | rfl, b⟩
                      · exact ⟨a, b⟩
                      · exact absurd b HW0.out, HC6.out, by simp⟩
      · intro n vn w4 hget hnd hit4 hc4 hs4 hen
        have HIT4 := Lib.hid hit4; have HND := Lib.hid hnd; have HGET := Lib.hid hget
        have HC4 : Hid (Chg (fun _ => False) w w4) := HC.out.trans' hc4 (fun i hi h => by omega)
        have HOM4 : Hid (OMem w4 A X mo lo (succs ps) lw lb W f) := HOM.out.iter hc4
        have hsub := hit4.sub.2.2
        have HSUB := Lib.hid hsub
        clear hit4 hc4 hs4 hget hnd HIT HOM HC hsub
        have hget2 := HOM4.out.rows n
        rw [HGET.out, Option.getD_some] at hget2
        obtain ⟨ao, cap, rfl⟩ : ∃ ao cap, vn = .slice ao (succs ps n).length cap := by obtain ⟨ao, cap, h, -⟩ := owned_ints (B := w4.heap.size) hget2.1 (Nat.le_refl _); exact ⟨ao, cap, h⟩
        clear hget2
        have hns := length_succs ps n
        have hX4 : X < w4.heap.size := HOM4.out.size
        go_wp2_with (at_mapUpdate; refine wpList_mapPut (k := n) (val := .map (some w4.heap.size)) rfl (.tmp 30) (.tmp 31) (.tmp 32) 40 rfl Try.underlying40 Try.underlying3 rfl (HOM4.out.wants.map.chg (Chg.alloc (fun _ => False) _ _) id) rfl rfl ?_; intro w5 hm5 hc5 hs5; have HOM5 := Lib.hid (HOM4.out.putNew hm5 hc5); have HIT5 := Lib.hid ((HIT4.out.chg (Chg.alloc (fun _ => False) _ _) id id).chg hc5 (by omega) (by omega)); have HC5 := Lib.hid ((HC4.out.trans (Chg.alloc _ _ _)).trans' hc5 (fun i hi h => by omega)); clear hm5 hc5 hs5)
        have HLN : Hid ((lw.put n (.map (some w4.heap.size))).get n = some (.map (some w4.heap.size))) := (show _ = _ from by rw [AL.get_put, if_pos rfl])
        have HLK1 : Hid (∀ k, k ∈ (lw.put n (.map (some w4.heap.size))).keys ↔ k ∈ done ++ [n]) := (show ∀ k, _ from by
          intro k
          have hn : n ∉ lw.keys := fun e => HND.out ((HLK.out n).1 e)
          rw [AL.keys_put, if_neg hn, List.mem_append, List.mem_append, HLK.out])
        obtain ⟨lw1, hlw1⟩ : ∃ l, lw.put n (.map (some w4.heap.size)) = l := ⟨_, rfl⟩
        rw [hlw1] at HLN HLK1 HOM5
        obtain ⟨bn, hbn⟩ : ∃ b, w4.heap.size = b := ⟨_, rfl⟩
        rw [hbn] at HLN hX4
        clear hlw1 hbn HIT4 HOM4 HC4 HLK
        go_loopw [35] (fun i wr => ∃ (k : Nat) (lb' : AL) (W' f' : Int → List Int), k ≤ (succs ps n).length ∧ i = .int .i64 k ∧ IterAt wr mo X lo (done ++ [n]) ∧ OMem wr A X mo lo (succs ps) lw1 lb' W' f' ∧ W' n = dd ((succs ps n).take k) ∧ (∀ z, z ≠ n → W' z = W z) ∧ FS2 ps done n ((succs ps n).take k) f' ∧ Chg (fun _ => False) w wr) (fun i _ => (succs ps n).length - (intOf i).toNat)
        case atStart => exact ⟨0, lb, _, f, Nat.zero_le _, rfl, HIT5.out, HOM5.out, by simp [dd], by intro z hz; simp [hz], HF.out.start n, HC5.out⟩
        case round =>
          clear HIT5 HOM5 HC5 HF
          obtain ⟨k, lb', W', f', hk, rfl, hit, hom, hwn, hwo, hfs, hc⟩ := hrel
          have HIT := Lib.hid hit; have HOM := Lib.hid hom; have HWN := Lib.hid hwn; have HWO := Lib.hid hwo; have HFS := Lib.hid hfs; have HC := Lib.hid hc
          clear hit hom hwn hwo hfs hc
          by_cases hlt : k < (succs ps n).length
          · obtain ⟨m, hm⟩ : ∃ m, (succs ps n)[k] = m := ⟨_, rfl⟩
            have HTK : Hid ((succs ps n).take (k + 1) = (succs ps n).take k ++ [m]) := by show _ = _; rw [List.take_succ_eq_append_getElem hlt, hm]
            have HFL : Hid (∀ m, (f' m).length ≤ 2 * ps.length) := fun m => HFS.out.len (fun z hz => mem_succs.1 (List.mem_of_mem_take hz)) m
            have hrow := (HOM.out.rows n).1
            rw [HGET.out, Option.getD_some] at hrow
            obtain ⟨ao', cap', hv', -, hcells⟩ := owned_ints (B := wr.heap.size) hrow (Nat.le_refl _)
            obtain ⟨b, off, hb, -, cM⟩ := hcells k _ (List.getElem?_eq_getElem hlt)
            rw [hm] at cM
            cases hv'
            subst hb
            clear hcells hm hrow
            obtain ⟨bn', li, hb1, hb2, hb3, hb4, hb5⟩ := HOM.out.wants.at (n := n) ((HLK1.out n).2 (by simp))
            have hlk1 := HOM.out.wants.map.run_lookup (P := Try.prog) Try.underlying40 Try.underlying3 (zero38 _) n
            rw [HLN.out] at hb1
            cases hb1
            rw [HLN.out, Option.getD_some] at hlk1
            have hlk2 := hb3.run_lookup (P := Try.prog) Try.underlying38 Try.underlying3 (zero4 _) m
            have HMI := Lib.hid hb3; have HKI := Lib.hid hb4; have HTI := Lib.hid hb5
            clear hb3 hb4 hb5
            by_cases hmw : m ∈ W' n
            · rw [HTI.out m hmw, Option.getD_some] at hlk2
              have HMW := Lib.hid hmw; clear hmw
              go_wp2
              go_roundw
              case rel => exact ⟨k + 1, lb', W', f', by omega, by go_num, HIT.out, HOM.out, by have h := HMW.out; rw [HTK.out, dd_snoc, ← HWN.out, if_pos h], HWO.out, by have h := HMW.out; rw [HWN.out, mem_dd] at h; rw [HTK.out]; exact HFS.out.keep h, HC.out⟩
              case measure => simp [intOf] <;> omega
            · have hmn : li.get m = none := AL.get_eq_none.2 (by rw [HKI.out]; exact hmw)
              rw [hmn] at hlk2
              have HMW := Lib.hid hmw; clear hmw hmn
              rw [Option.getD_none] at hlk2
              have HT2 : Hid (∀ x ∈ (li.put m (.bool true)).keys, (li.put m (.bool true)).get x = some (.bool true)) := (show ∀ x, _ from by
                intro x hx
                rw [AL.get_put]
                split
                · rfl
                · rename_i hne
                  apply HTI.out
                  rw [← HKI.out]
                  rw [AL.keys_put] at hx
                  split at hx
                  · exact hx
                  · rcases List.mem_append.1 hx with hx | hx
                    · exact hx
                    · simp at hx; exact absurd hx.symm hne)
              have HK2 : Hid ((li.put m (.bool true)).keys = dd ((succs ps n).take k) ++ [m]) := (show _ = _ from by
                rw [AL.keys_put, if_neg (by rw [HKI.out]; exact HMW.out), HKI.out, HWN.out])
              go_wp2_with (first
                | (at_mapUpdate; refine wpList_mapPut (k := m) (val := .bool true) rfl (.tmp 47) (.tmp 48) _ 38 rfl Try.underlying38 Try.underlying3 rfl HMI.out rfl rfl ?_; intro w6 hm6 hc6 hs6; have HOM6 := Lib.hid (HOM.out.turn HLN.out HMI.out hb2 hm6 hc6 HT2.out); have HC6 := Lib.hid (HC.out.trans' hc6 (fun i hi h => by omega)); have HIT6 := Lib.hid (HIT.out.chg hc6 (by omega) (by omega)); have hlk3 := HOM6.out.back.map.run_lookup (P := Try.prog) Try.underlying41 Try.underlying3 (zero24 _) m; clear hm6 hc6 hs6)
                | (at_builtin; refine wpList_app2 (v := (lb'.get m).getD (.slice none 0 0)) rfl (.tmp 53) (.tmp 55) 24 rfl Try.underlying24 Try.info3 rfl (by decide) (by decide) [.int .i64 n] rfl rfl (HOM6.out.back.row m) rfl rfl (by intro u hu; simp at hu; subst hu; rfl) (by have := HFL.out m; omega) (by have := HOM6.out.size; omega) ?_; intro v7 w7 ho7 hc7 hb7; have HO7 := Lib.hid ho7; have HC7 := Lib.hid hc7; have HB7 := Lib.hid hb7; clear ho7 hc7 hb7)
                | (at_mapUpdate; refine wpList_mapPut (k := m) (val := v7) rfl (.tmp 49) (.tmp 50) (.tmp 56) 41 rfl Try.underlying41 Try.underlying3 rfl (HOM6.out.back.others HC7.out).1 rfl rfl ?_; intro w8 hm8 hc8 hs8; have HOM8 := Lib.hid (HOM6.out.put HC7.out HO7.out HB7.out hm8 hc8); have HC8 := Lib.hid ((HC6.out.trans' HC7.out (fun i hi h => by have := h.1; omega)).trans' hc8 (fun i hi h => by omega)); have HIT8 := Lib.hid ((HIT6.out.chg HC7.out (fun h => by have := h.1; omega) (fun h => by have := h.1; omega)).chg hc8 (by omega) (by omega)); clear hm8 hc8 hs8))
              go_roundw
              case rel =>
                have h := HMW.out
                rw [HWN.out] at h
                have h2 := h
                rw [mem_dd] at h2
                exact ⟨k + 1, _, _, _, by omega, by go_num, HIT8.out, HOM8.out, by simp only [if_true]; rw [HK2.out, HTK.out, dd_snoc, if_neg h], by intro z hz; simp only [if_neg hz]; exact HWO.out z hz, by rw [HTK.out]; exact HFS.out.snoc h2 HND.out, HC8.out⟩
              case measure => simp [intOf] <;> omega
          · go_wp2
            go_roundg (lo.length - (done.length + 1) + 1)
            case measure => have h1 := HLT.out; have h2 := HSUB.out; simp at h2; omega
            case rel =>
              have hkk : (succs ps n).take k = succs ps n := List.take_of_length_le (by omega)
              have h1 := HFS.out
              have h2 := HWN.out
              rw [hkk] at h1 h2
              exact ⟨done ++ [n], lw1, lb', W', f', HIT.out, HOM.out, HLK1.out, by
                intro z hz
                rcases List.mem_append.1 hz with hz | hz
                · have : z ≠ n := fun e => HND.out (e ▸ hz)
                  rw [HWO.out z this]; exact HW.out z hz
                · simp at hz; subst hz; exact h2, h1.fin, HC.out, by simp⟩
end Go.Proofs.Ytochkamjfmdmoaa
