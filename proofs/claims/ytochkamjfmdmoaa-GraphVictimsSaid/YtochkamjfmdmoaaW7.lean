/- Walks: the closure of rings. -/
import Derived.Test.YtochkamjfmdmoaaTm
namespace Go.Proofs.Ytochkamjfmdmoaa
open Go.RowKit

section
variable {S : TS} {lo ll lon lf : AL}
theorem TR.start (h : TR S lo ll lon lf) {n : Int} (hn : n ∉ S.ord) :
    TR { ord := S.ord ++ [n], low := upd S.low n (S.ord.length + 1), stack := S.stack ++ [n], found := S.found } (lo.put n (.int .i64 ((S.ord.length : Int) + 1))) (ll.put n (.int .i64 ((S.ord.length : Int) + 1))) (lon.put n (.bool true)) lf := by
  have hk : n ∉ lo.keys := AL.get_eq_none.1 (by rw [h.ord, if_neg hn])
  refine ⟨fun x => ?_, ?_, fun x hx => ?_, fun x => ?_, h.fnd⟩
  · rw [AL.get_put]
    by_cases hx : n = x
    · subst hx
      rw [if_pos rfl, if_pos (by simp)]
      simp only [num_last hn]
      rfl
    · rw [if_neg hx, h.ord]
      by_cases hxo : x ∈ S.ord
      · rw [if_pos hxo, if_pos (List.mem_append_left _ hxo)]
        simp only
        rw [num_prefix (List.prefix_append S.ord [n]) hxo]
      · rw [if_neg hxo, if_neg (by simp [hxo, Ne.symm hx])]
  · rw [AL.length_put, if_neg hk, h.olen]
    simp
  · rw [AL.get_put]
    simp only [upd]
    by_cases hx' : n = x
    · subst hx'
      rw [if_pos rfl, if_pos rfl]
      rfl
    · rw [if_neg hx', if_neg (Ne.symm hx')]
      have : x ∈ S.ord := by
        rcases List.mem_append.1 hx with h1 | h1
        · exact h1
        · simp at h1; exact absurd h1.symm hx'
      exact h.low x this
  · rw [AL.get_put]
    by_cases hx : n = x
    · subst hx
      simp
    · rw [if_neg hx, h.on]
      simp [Ne.symm hx]

theorem TR.putLow (h : TR S lo ll lon lf) (n : Int) (v : Nat) : TR { S with low := upd S.low n v } lo (ll.put n (.int .i64 v)) lon lf := by
  refine ⟨h.ord, h.olen, fun x hx => ?_, h.on, h.fnd⟩
  rw [AL.get_put]
  simp only [upd]
  by_cases hx' : n = x
  · subst hx'; rw [if_pos rfl, if_pos rfl]
  · rw [if_neg hx', if_neg (Ne.symm hx')]; exact h.low x hx

theorem TR.putFound (h : TR S lo ll lon lf) (n : Int) : TR { S with found := fun x => S.found x ∨ x = n } lo ll lon (lf.put n (.bool true)) := by
  refine ⟨h.ord, h.olen, h.low, h.on, fun x => ?_⟩
  rw [AL.get_put]
  by_cases hx : n = x
  · subst hx; rw [if_pos rfl]; exact .inl ⟨rfl, .inr rfl⟩
  · rw [if_neg hx]
    rcases h.fnd x with ⟨h1, h2⟩ | ⟨h1, h2⟩
    · exact .inl ⟨h1, .inl h2⟩
    · exact .inr ⟨h1, fun e => e.elim h2 (fun e => hx e.symm)⟩
end

def WalkPost (ps : List (Int × Int)) (N mn : Nat) (ln : AL) (S : TS) (n : Int) (w : World) (e : Ending) (w' : World) : Prop :=
  e = .returned (.tuple #[]) ∧ ∃ S' lo ll lon lf sv, WPost ps S n S' ∧ TR S' lo ll lon lf ∧ TM N mn ln lo ll lon lf sv S'.stack (succs ps) w' ∧ Chg (SC N) w w'

set_option maxHeartbeats 2000000 in
theorem walk_any (ps : List (Int × Int)) (hl : ps.length ≤ 1000) (N mn : Nat) (ln : AL) : ∀ (fuel : Nat) (n : Int) (S : TS) (w : World) (lo ll lon lf : AL) (sv : Value),
    (nums ps).length ≤ fuel + S.ord.length → WPre ps S n → TR S lo ll lon lf → TM N mn ln lo ll lon lf sv S.stack (succs ps) w →
    Calls Try.prog 26 #[.int .i64 n, .pointer (some ⟨N + 5, 0, none⟩), .pointer (some ⟨N + 6, 0, none⟩), .pointer (some ⟨N + 9, 0, none⟩), .pointer (some ⟨N + 8, 0, none⟩), .pointer (some ⟨N, 0, none⟩), .pointer (some ⟨N + 2, 0, none⟩), .pointer (some ⟨N + 10, 0, none⟩)] w
      (WalkPost ps N mn ln S n w) := by
  intro fuel
  induction fuel with
  | zero =>
    intro n S w lo ll lon lf sv hf hpre
    exfalso
    have := nodup_length_le (l := n :: S.ord) (m := nums ps) (List.nodup_cons.2 ⟨hpre.fresh, hpre.inv.nd⟩) (fun x hx => by
      rcases List.mem_cons.1 hx with rfl | hx
      · exact mem_nums.2 hpre.isn
      · exact mem_nums.2 (hpre.inv.sub x hx))
    simp at this
    omega
  | succ fuel ih =>
    intro n S w lo ll lon lf sv hf hpre htr htm
    have hnl := length_nums ps
    have hol := hpre.inv.len
    have hsl := hpre.inv.slen
    have IH := Lib.hid ih; clear ih
    have HP := Lib.hid hpre; have HR := Lib.hid htr; have HT := Lib.hid htm
    have HF := Lib.hid hf; clear hpre htr htm hf
    obtain ⟨cN, cF, cO, cL, cON, cS, cW⟩ := HT.out.cellFacts
    have hlen := HT.out.mo.run_len (P := Try.prog) Try.underlying51 3
    rw [HR.out.olen] at hlen
    have HSO : Hid ((ints S.stack).length = S.stack.length) := ints_length _
    obtain ⟨ao, ncap, hvn⟩ : ∃ ao cap, (ln.get n).getD (.slice none 0 0) = .slice ao (succs ps n).length cap := by
      obtain ⟨ao, cap, h, _⟩ := owned_ints (B := w.heap.size) (HT.out.next.row n) (Nat.le_refl _)
      exact ⟨ao, cap, h⟩
    have HVN := Lib.hid hvn; clear hvn
    have hns := length_succs ps n
    have hN11 := HT.out.size
    -- the lookup of next[n] in whatever world
    have HLN : Hid (∀ (lo ll lon lf : AL) (sv : Value) (st : List Int) (w' : World), TM N mn ln lo ll lon lf sv st (succs ps) w' → (Instr.lookup 41 (.map (some mn)) (.int .i64 n) false).run Try.prog w' = .ok (.slice ao (succs ps n).length ncap) w') := by
      intro lo ll lon lf sv st w' h
      rw [h.next.map.run_lookup (P := Try.prog) Try.underlying41 Try.underlying3 (zero24 _) n, HVN.out]
    go_enter Try.func26, Try.ntmps26
    go_wp2_with (first
      | (at_mapUpdate; refine wpList_mapPut (k := n) (val := .int .i64 (↑S.ord.length + 1)) rfl (.tmp 15) (.tmp 16) (.tmp 19) 51 rfl Try.underlying51 Try.underlying3 rfl HT.out.mo rfl rfl ?_; intro w1 hm1 hc1 hs1; have HT1 := Lib.hid (HT.out.putO hm1 hc1); have HC1 := Lib.hid hc1; have hlk1 := hm1.run_lookup (P := Try.prog) Try.underlying51 Try.underlying3 (zero3 _) n; rw [AL.get_put, if_pos rfl, Option.getD_some] at hlk1; clear hm1 hc1 hs1 cN cF cO cL cON cS cW hlen; obtain ⟨cN, cF, cO, cL, cON, cS, cW⟩ := HT1.out.cellFacts)
      | (at_mapUpdate; refine wpList_mapPut (k := n) (val := .int .i64 (↑S.ord.length + 1)) rfl (.tmp 20) (.tmp 21) (.tmp 24) 51 rfl Try.underlying51 Try.underlying3 rfl HT1.out.ml rfl rfl ?_; intro w2 hm2 hc2 hs2; have HT2 := Lib.hid (HT1.out.putL hm2 hc2); have HC2 := Lib.hid hc2; clear hm2 hc2 hs2 hlk1 cN cF cO cL cON cS cW; obtain ⟨cN, cF, cO, cL, cON, cS, cW⟩ := HT2.out.cellFacts)
      | (at_builtin; refine wpList_app1 (v := sv) rfl (.tmp 25) (.tmp 27) 24 rfl Try.underlying24 Try.info3 rfl (by decide) (by decide) [.int .i64 n] rfl rfl HT2.out.row rfl rfl (by intro u hu; simp at hu; subst hu; rfl) (by omega) HT2.out.size ?_; intro v3 w3 ho3 hc3; obtain ⟨a3, cap3, rfl⟩ := owned_slice ho3; have HT3 := Lib.hid (HT2.out.putS (st' := S.stack ++ [n]) hc3 (fun k hk => hk.1) (by rw [List.length_append, ints_append]; exact ho3)); have HC3 := Lib.hid hc3; have c3 := hc3.cell cS (fun h => by have := h.1; simp at this); have f3 := frozen_of_heap (HT2.out.cells.chg hc3 (by omega)).stack; clear ho3 hc3 cN cF cO cL cON cS cW; obtain ⟨cN, cF, cO, cL, cON, cS, cW⟩ := HT3.out.cellFacts)
      | (at_mapUpdate; refine wpList_mapPut (k := n) (val := .bool true) rfl (.tmp 29) (.tmp 30) _ 38 rfl Try.underlying38 Try.underlying3 rfl HT3.out.mon rfl rfl ?_; intro w4 hm4 hc4 hs4; have HT4 := Lib.hid (HT3.out.putOn hm4 hc4); have HC4 := Lib.hid hc4; clear hm4 hc4 hs4 c3 f3 cN cF cO cL cON cS cW; obtain ⟨cN, cF, cO, cL, cON, cS, cW⟩ := HT4.out.cellFacts; have hln := HLN.out _ _ _ _ _ _ _ HT4.out))
    have HCW : Hid (Chg (SC N) w w4) := by
      refine ((((HC1.out.mono (T := SC N) (fun i _ h => ?_)).trans (HC2.out.mono (fun i _ h => ?_))).trans (HC3.out.mono (fun i _ h => ?_))).trans ((Chg.setCell w3 ⟨N + 9, 0, none⟩ _).mono (fun i _ h => ?_))).trans (HC4.out.mono (fun i _ h => ?_)) <;> unfold SC
      · exact .inr (.inl h)
      · exact .inr (.inr (.inl h))
      · exact .inr (.inr (.inr (.inr (.inr h.1))))
      · exact .inr (.inr (.inr (.inr (.inl h))))
      · exact .inr (.inr (.inr (.inl h)))
    have HL0 := Lib.hid (LInv.start HP.out)
    have HR0 := Lib.hid (HR.out.start HP.out.fresh)
    have hfresh := HP.out.fresh
    have HFR := Lib.hid hfresh; clear hfresh
    clear cN cF cO cL cON cS cW hln HC1 HC2 HC3 HC4 HT1 HT2 HT3
    go_loopw [35] (fun i wr => ∃ (k : Nat) (s : List Int) (T : TS) (lo ll lon lf : AL) (sv : Value), k ≤ (succs ps n).length ∧ i = .int .i64 k ∧ LInv ps S n ((succs ps n).take k) s T ∧ TR T lo ll lon lf ∧ TM N mn ln lo ll lon lf sv T.stack (succs ps) wr ∧ Chg (SC N) w wr) (fun i _ => (succs ps n).length - (intOf i).toNat)
    case atStart => exact ⟨0, [], _, _, _, _, _, _, Nat.zero_le _, rfl, HL0.out, HR0.out, by have := HT4.out; rw [show S.stack.length + 1 = (S.stack ++ [n]).length from by simp] at this; exact this, HCW.out⟩
    case round =>
      clear HL0 HR0 HT4 HCW
      obtain ⟨k, s, T, lo', ll', lon', lf', sv', hk, rfl, hli, htr, htm, hc⟩ := hrel
      have HL := Lib.hid hli; have HR' := Lib.hid htr; have HT' := Lib.hid htm; have HC := Lib.hid hc; clear hli htr htm hc
      obtain ⟨cN, cF, cO, cL, cON, cS, cW⟩ := HT'.out.cellFacts
      unfold walkFn at cW
      by_cases hlt : k < (succs ps n).length
      · obtain ⟨m, hm⟩ : ∃ m, (succs ps n)[k] = m := ⟨_, rfl⟩
        have HMP : Hid ((n, m) ∈ ps) := by show _ ∈ _; rw [← hm]; exact mem_succs.1 (List.getElem_mem _)
        have HTK : Hid ((succs ps n).take (k + 1) = (succs ps n).take k ++ [m]) := by show _ = _; rw [List.take_succ_eq_append_getElem hlt, hm]
        obtain ⟨ao', cap', hv', -, hcells⟩ := owned_ints (B := wr.heap.size) (HT'.out.next.row n) (Nat.le_refl _)
        rw [HVN.out] at hv'
        obtain ⟨b, off, rfl, hbB, cM⟩ := hcells k _ (List.getElem?_eq_getElem hlt)
        rw [hm] at cM
        cases hv'
        clear hcells hm
        have hO := HT'.out.mo.run_lookup (P := Try.prog) Try.underlying51 Try.underlying3 (zero3 _) m
        rw [HR'.out.ordD m] at hO
        by_cases hmn : m = n
        · have hmn' : (m == n) = true := by simp [hmn]
          have HMN := Lib.hid hmn; clear hmn
          go_wp2_with (at_mapUpdate; refine wpList_mapPut (k := n) (val := .bool true) rfl (.tmp 43) (.tmp 44) _ 38 rfl Try.underlying38 Try.underlying3 rfl HT'.out.mf rfl rfl ?_; intro w1 hm1 hc1 hs1; have HT1 := Lib.hid (HT'.out.putF hm1 hc1); have HC1 := Lib.hid hc1; clear hm1 hc1 hs1)
          go_roundw
          case rel =>
            refine ⟨k + 1, s, _, lo', ll', lon', _, sv', by omega, by go_num, ?_, HR'.out.putFound n, HT1.out, HC.out.trans (HC1.out.mono (fun i _ h => .inl h))⟩
            rw [HTK.out, HMN.out]
            have hp := HMP.out
            rw [HMN.out] at hp
            exact HL.out.selfStep hp
          case measure => simp [intOf] <;> omega
        · have hmn' : (m == n) = false := by simp [hmn]
          have HMN := Lib.hid hmn; clear hmn
          by_cases hmo : m ∈ T.ord
          · have hnz : (((num T.ord m : Nat) : Int) == 0) = false := by have := num_pos hmo; simp; omega
            have HMO := Lib.hid hmo; clear hmo
            have hON := HT'.out.mon.run_lookup (P := Try.prog) Try.underlying38 Try.underlying3 (zero4 _) m
            rw [HR'.out.on m] at hON
            by_cases hms : m ∈ T.stack
            · rw [show decide (m ∈ T.stack) = true from by simp [hms]] at hON
              have HMS := Lib.hid hms; clear hms
              have hLn := HT'.out.ml.run_lookup (P := Try.prog) Try.underlying51 Try.underlying3 (zero3 _) n
              rw [HR'.out.low n HL.out.nmem, Option.getD_some] at hLn
              have hmin := run_min_nat Try.prog wr #[3, 3] 3 (T.low n) (num T.ord m)
              go_wp2_with (at_mapUpdate; refine wpList_mapPut (k := n) (val := .int .i64 ((min (T.low n) (num T.ord m) : Nat) : Int)) rfl (.tmp 66) (.tmp 67) _ 51 rfl Try.underlying51 Try.underlying3 rfl HT'.out.ml rfl rfl ?_; intro w1 hm1 hc1 hs1; have HT1 := Lib.hid (HT'.out.putL hm1 hc1); have HC1 := Lib.hid hc1; clear hm1 hc1 hs1)
              go_roundw
              case rel => exact ⟨k + 1, s, _, lo', _, lon', lf', sv', by omega, by go_num, by rw [HTK.out]; exact HL.out.onStep HFR.out HMP.out HMS.out HMN.out, HR'.out.putLow n _, HT1.out, HC.out.trans (HC1.out.mono (fun i _ h => .inr (.inr (.inl h))))⟩
              case measure => simp [intOf] <;> omega
            · rw [show decide (m ∈ T.stack) = false from by simp [hms]] at hON
              have HMS := Lib.hid hms; clear hms
              go_wp2
              go_roundw
              case rel => exact ⟨k + 1, s, T, lo', ll', lon', lf', sv', by omega, by go_num, by rw [HTK.out]; exact HL.out.offStep HMO.out HMS.out HMN.out, HR'.out, HT'.out, HC.out⟩
              case measure => simp [intOf] <;> omega
          · have hnz : (((num T.ord m : Nat) : Int) == 0) = true := by rw [num_zero hmo]; rfl
            have hpos : T.ord.length ≤ (nums ps).length := HL.out.inv.len
            have hgrow : S.ord.length + 1 ≤ T.ord.length := by have := HL.out.ext.length_le; simpa using this
            have hcall := IH.out m T wr lo' ll' lon' lf' sv' (by have := HF.out; omega) (HL.out.wpre HMP.out hmo) HR'.out HT'.out
            have HCALL := Lib.hid hcall; clear hcall hpos hgrow
            have HMO := Lib.hid hmo; clear hmo
            go_wp2_with (first
              | (go_at_call 26; refine HCALL.out.mono ?_; rintro e w5 ⟨rfl, S', lo5, ll5, lon5, lf5, sv5, hw5, htr5, htm5, hc5⟩; have HW5 := Lib.hid hw5; have HR5 := Lib.hid htr5; have HT5 := Lib.hid htm5; have HC5 := Lib.hid hc5; clear hw5 htr5 htm5 hc5 cN cF cO cL cON cS cW hO hnz cM; obtain ⟨cN, cF, cO, cL, cON, cS, cW⟩ := HT5.out.cellFacts; have hLn := HT5.out.ml.run_lookup (P := Try.prog) Try.underlying51 Try.underlying3 (zero3 _) n; rw [HR5.out.low n (HW5.out.ext.subset HL.out.nmem), Option.getD_some] at hLn; have hLm := HT5.out.ml.run_lookup (P := Try.prog) Try.underlying51 Try.underlying3 (zero3 _) m; rw [HR5.out.low m HW5.out.nin, Option.getD_some] at hLm; have hmin := run_min_nat Try.prog w5 #[3, 3] 3 (S'.low n) (S'.low m))
              | (at_mapUpdate; refine wpList_mapPut (k := n) (val := .int .i64 ((min (S'.low n) (S'.low m) : Nat) : Int)) rfl (.tmp 53) (.tmp 54) _ 51 rfl Try.underlying51 Try.underlying3 rfl HT5.out.ml rfl rfl ?_; intro w1 hm1 hc1 hs1; have HT1 := Lib.hid (HT5.out.putL hm1 hc1); have HC1 := Lib.hid hc1; clear hm1 hc1 hs1))
            obtain ⟨s', hli'⟩ := HL.out.recStep HFR.out HMP.out HMO.out HW5.out
            have HLI := Lib.hid hli'; clear hli'
            go_roundw
            case rel => exact ⟨k + 1, s', _, lo5, _, lon5, lf5, sv5, by omega, by go_num, by rw [HTK.out]; exact HLI.out, HR5.out.putLow n _, HT1.out, HC.out.trans (HC5.out.trans (HC1.out.mono (fun i _ h => .inr (.inr (.inl h)))))⟩
            case measure => simp [intOf] <;> omega
      · have hkk : k = (succs ps n).length := by omega
        have hall : Hid (∀ y, (n, y) ∈ ps → y ∈ (succs ps n).take k) := by
          intro y hy
          rw [hkk, List.take_length]
          exact mem_succs.2 hy
        clear hkk
        have hLn := HT'.out.ml.run_lookup (P := Try.prog) Try.underlying51 Try.underlying3 (zero3 _) n
        rw [HR'.out.low n HL.out.nmem, Option.getD_some] at hLn
        have hOn := HT'.out.mo.run_lookup (P := Try.prog) Try.underlying51 Try.underlying3 (zero3 _) n
        rw [HR'.out.ordD n] at hOn
        by_cases hlow : T.low n = num T.ord n
        · have hne : (((T.low n : Nat) : Int) != ((num T.ord n : Nat) : Int)) = false := by simp [hlow]
          have HLOW := Lib.hid hlow; clear hlow
          have htl : T.stack.length ≤ T.ord.length := HL.out.inv.slen
          have htol : T.ord.length ≤ (nums ps).length := HL.out.inv.len
          obtain ⟨at_, hat⟩ : ∃ a, S.stack.length = a := ⟨_, rfl⟩
          obtain ⟨plen, hpl⟩ : ∃ p, s.length + 1 = p := ⟨_, rfl⟩
          have hL : T.stack.length = at_ + plen := by rw [HL.out.stk, List.length_append, List.length_cons, hat, hpl]
          have hatT : Hid (T.stack[at_]? = some n) := by show _ = _; rw [HL.out.stk, ← hat]; simp
          have hnoT : Hid (n ∉ T.stack.take at_) := by
            show n ∉ _
            rw [HL.out.stk, ← hat, List.take_left']
            · exact fun e => HFR.out (HP.out.inv.son n e)
            · rfl
          have hpart : Hid (∀ j x, (n :: s)[j]? = some x → T.stack[at_ + j]? = some x) := by
            intro j x hj
            rw [HL.out.stk, ← hat, List.getElem?_append_right (by omega)]
            rw [Nat.add_sub_cancel_left]
            exact hj
          have hplp : 0 < plen := by omega
          obtain ⟨g, cap5, hsv, hcap, hg⟩ := owned_nonnil HT'.out.row (by omega)
          rw [hL] at hsv
          subst hsv
          have HPL := Lib.hid hpl; have HAT := Lib.hid hat; have HLL := Lib.hid hL; 
          have hb1 : at_ + plen ≤ 2000 := by omega
          have hcap' : at_ + plen ≤ cap5 := by omega
          clear hpl hat hL htl htol hcap
          have hix := index_any (B := wr.heap.size) n at_ (owned_ints (e := 3) (base := N + 12) (v := Value.slice (some { block := g, off := 0, spot := none }) (at_ + plen) cap5) (l := T.stack) HT'.out.row (Nat.le_refl _)) (by have := HLL.out; omega) hatT.out hnoT.out
          have HIX := Lib.hid hix; clear hix
          have hi0 : (0 : Int) ≤ (at_ : Int) := by omega
          have hi1 : (at_ : Int) ≤ ((at_ + plen : Nat) : Int) := by omega
          have hi2 : ¬ cap5 = at_ := by omega
          go_wp2_with (first
            | (go_at_call 27; refine HIX.out.mono ?_; rintro e w' ⟨rfl, rfl⟩))
          obtain ⟨wo, rfl⟩ : ∃ wo : World, wo = wr := ⟨_, rfl⟩
          have HON0 : Hid (∀ x, (lon'.get x).getD (.bool false) = .bool (decide (x ∈ T.stack ∧ x ∉ (n :: s).take 0))) := by
            intro x
            rw [HR'.out.on x]
            simp
          have HFN0 : Hid (∀ x, (lf'.get x = some (.bool true) ∧ (T.found x ∨ (s ≠ [] ∧ x ∈ (n :: s).take 0))) ∨ (lf'.get x = none ∧ ¬ (T.found x ∨ (s ≠ [] ∧ x ∈ (n :: s).take 0)))) := by
            intro x
            simpa using HR'.out.fnd x
          clear cN cF cO cL cON cS cW hLn hOn hi0 hi1
          go_loopw [91] (fun i wq => ∃ (j : Nat) (lon2 lf2 : AL), j ≤ plen ∧ i = .int .i64 j ∧ TM N mn ln lo' ll' lon2 lf2 (.slice (some ⟨g, 0, none⟩) (at_ + plen) cap5) T.stack (succs ps) wq ∧ Chg (SC N) w wq ∧
            (∀ x, (lon2.get x).getD (.bool false) = .bool (decide (x ∈ T.stack ∧ x ∉ (n :: s).take j))) ∧
            (∀ x, (lf2.get x = some (.bool true) ∧ (T.found x ∨ (s ≠ [] ∧ x ∈ (n :: s).take j))) ∨ (lf2.get x = none ∧ ¬ (T.found x ∨ (s ≠ [] ∧ x ∈ (n :: s).take j))))) (fun i _ => plen - (intOf i).toNat)
          case atStart => exact ⟨0, lon', lf', Nat.zero_le _, rfl, HT'.out, HC.out, HON0.out, HFN0.out⟩
          case round =>
            clear HON0 HFN0 HT' HC HIX
            obtain ⟨j, lon2, lf2, hj, rfl, htm2, hc2, hon2, hfn2⟩ := hrel
            have HT2 := Lib.hid htm2; have HC2 := Lib.hid hc2; have HON2 := Lib.hid hon2; have HFN2 := Lib.hid hfn2; clear htm2 hc2 hon2 hfn2
            obtain ⟨cN, cF, cO, cL, cON, cS, cW⟩ := HT2.out.cellFacts
            by_cases hjl : j < plen
            · have hjs : j < (n :: s).length := by rw [List.length_cons, HPL.out]; exact hjl
              obtain ⟨x, hx⟩ : ∃ x, (n :: s)[j] = x := ⟨_, rfl⟩
              have hxq : (n :: s)[j]? = some x := by rw [List.getElem?_eq_getElem hjs, hx]
              have hrow := HT2.out.row
              rw [HLL.out] at hrow
              have cX := owned_cell hrow (hpart.out j x hxq)
              clear hrow
              have HTK : Hid ((n :: s).take (j + 1) = (n :: s).take j ++ [x]) := by show _ = _; rw [List.take_succ_eq_append_getElem hjs, hx]
              have HON3 : Hid (∀ y, ((lon2.put x (.bool false)).get y).getD (.bool false) = .bool (decide (y ∈ T.stack ∧ y ∉ (n :: s).take (j + 1)))) := by
                intro y
                rw [AL.get_put, HTK.out]
                by_cases hxy : x = y
                · subst hxy; simp
                · rw [if_neg hxy, HON2.out y]
                  congr 2
                  simp [Ne.symm hxy]
              clear hx hxq hjs
              by_cases h1 : 1 < plen
              · have h1' : (1 : Int) < (plen : Int) := by omega
                have hs : s ≠ [] := by intro e; have := HPL.out; rw [e] at this; simp at this; omega
                have HFN3 : Hid (∀ y, ((lf2.put x (.bool true)).get y = some (.bool true) ∧ (T.found y ∨ (s ≠ [] ∧ y ∈ (n :: s).take (j + 1)))) ∨ ((lf2.put x (.bool true)).get y = none ∧ ¬ (T.found y ∨ (s ≠ [] ∧ y ∈ (n :: s).take (j + 1))))) := by
                  intro y
                  rw [AL.get_put, HTK.out]
                  by_cases hxy : x = y
                  · subst hxy
                    rw [if_pos rfl]
                    exact .inl ⟨rfl, .inr ⟨hs, by simp⟩⟩
                  · rw [if_neg hxy]
                    have : y ∈ (n :: s).take j ++ [x] ↔ y ∈ (n :: s).take j := by simp [Ne.symm hxy]
                    rw [this]
                    exact HFN2.out y
                clear hs
                go_wp2_with (first
                  | (at_mapUpdate; refine wpList_mapPut (k := x) (val := .bool false) rfl (.tmp 95) (.tmp 96) _ 38 rfl Try.underlying38 Try.underlying3 rfl HT2.out.mon rfl rfl ?_; intro w6 hm6 hc6 hs6; have HT6 := Lib.hid (HT2.out.putOn hm6 hc6); have HC6 := Lib.hid hc6; clear hm6 hc6 hs6 cN cF cO cL cON cS cW; obtain ⟨cN, cF, cO, cL, cON, cS, cW⟩ := HT6.out.cellFacts)
                  | (at_mapUpdate; refine wpList_mapPut (k := x) (val := .bool true) rfl (.tmp 100) (.tmp 101) _ 38 rfl Try.underlying38 Try.underlying3 rfl HT6.out.mf rfl rfl ?_; intro w7 hm7 hc7 hs7; have HT7 := Lib.hid (HT6.out.putF hm7 hc7); have HC7 := Lib.hid hc7; clear hm7 hc7 hs7))
                go_roundw
                case rel => exact ⟨j + 1, _, _, by omega, by go_num, HT7.out, HC2.out.trans ((HC6.out.mono (fun i _ h => .inr (.inr (.inr (.inl h))))).trans (HC7.out.mono (fun i _ h => .inl h))), HON3.out, HFN3.out⟩
                case measure => simp [intOf] <;> omega
              · have h1' : ¬ (1 : Int) < (plen : Int) := by omega
                have hs : s = [] := by have := HPL.out; exact List.eq_nil_of_length_eq_zero (by omega)
                have HFN3 : Hid (∀ y, (lf2.get y = some (.bool true) ∧ (T.found y ∨ (s ≠ [] ∧ y ∈ (n :: s).take (j + 1)))) ∨ (lf2.get y = none ∧ ¬ (T.found y ∨ (s ≠ [] ∧ y ∈ (n :: s).take (j + 1))))) := by
                  intro y
                  have := HFN2.out y
                  simp only [hs, ne_eq, not_true_eq_false, false_and, or_false] at this ⊢
                  exact this
                clear hs
                go_wp2_with (at_mapUpdate; refine wpList_mapPut (k := x) (val := .bool false) rfl (.tmp 95) (.tmp 96) _ 38 rfl Try.underlying38 Try.underlying3 rfl HT2.out.mon rfl rfl ?_; intro w6 hm6 hc6 hs6; have HT6 := Lib.hid (HT2.out.putOn hm6 hc6); have HC6 := Lib.hid hc6; clear hm6 hc6 hs6)
                go_roundw
                case rel => exact ⟨j + 1, _, _, by omega, by go_num, HT6.out, HC2.out.trans (HC6.out.mono (fun i _ h => .inr (.inr (.inr (.inl h))))), HON3.out, HFN3.out⟩
                case measure => simp [intOf] <;> omega
            · have hjj : j = plen := by omega
              have HTA : Hid ((n :: s).take j = n :: s) := by show _ = _; rw [hjj, ← HPL.out]; exact List.take_of_length_le (by simp)
              clear hjj
              have fS := frozen_of_heap HT2.out.cells.stack
              have hi0 : (0 : Int) ≤ (at_ : Int) := by omega
              have hi1 : (at_ : Int) ≤ (cap5 : Int) := by omega
              go_wp2
              go_end0
              refine ⟨rfl, _, lo', ll', lon2, lf2, .slice (some ⟨g, 0, none⟩) at_ cap5, HL.out.pop HP.out.inv HFR.out (fun y hy => hall.out y hy) HLOW.out, ⟨HR'.out.ord, HR'.out.olen, HR'.out.low, fun x => ?_, fun x => ?_⟩, ?_, HC2.out.trans ((Chg.setCell wr ⟨N + 9, 0, none⟩ _).mono (fun i _ h => .inr (.inr (.inr (.inr (.inl h))))))⟩
              · rw [HON2.out x, HTA.out]
                congr 2
                have hnd := HL.out.inv.snd
                rw [HL.out.stk] at hnd ⊢
                have hdis := (List.nodup_append.1 hnd).2.2
                simp only [eq_iff_iff]
                constructor
                · rintro ⟨h1, h2⟩
                  rcases List.mem_append.1 h1 with h1 | h1
                  · exact h1
                  · exact absurd h1 h2
                · intro h1
                  exact ⟨List.mem_append_left _ h1, fun h2 => hdis x h1 x h2 rfl⟩
              · have := HFN2.out x
                rw [HTA.out] at this
                simp only [List.mem_cons] at this
                exact this
              · refine HT2.out.putS (Chg.refl (fun _ => False) _) (fun k h => h.elim) ?_
                have hrow := HT2.out.row
                rw [HLL.out] at hrow
                have h1 := owned_take hrow (m := at_) (by omega)
                have h2 : (ints T.stack).take at_ = ints S.stack := by
                  rw [HL.out.stk, ints_append]
                  exact List.take_left' (by rw [ints_length, HAT.out])
                rw [h2] at h1
                show World.ownsRow wr (N + 12) 3 1 _ S.stack.length (ints S.stack)
                rw [HAT.out]
                exact h1
        · have hne : (((T.low n : Nat) : Int) != ((num T.ord n : Nat) : Int)) = true := by simp; omega
          have HLOW := Lib.hid hlow; clear hlow
          go_wp2
          go_end0
          exact ⟨rfl, T, lo', ll', lon', lf', sv', HL.out.stay hall.out HLOW.out, HR'.out, HT'.out, HC.out⟩
end Go.Proofs.Ytochkamjfmdmoaa
