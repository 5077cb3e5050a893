/- Walks: rings, Ring, Victim. -/
import Derived.Test.YtochkamjfmdmoaaW7
import Derived.Laws.EntriesVeiled
import Derived.Maps.RangeWalk
namespace Go.Proofs.Ytochkamjfmdmoaa
open Go.RowKit

/-- the map r holds true at all numbers that are on a ring, and nothing else -/
def RingsAt (w : World) (r : Nat) (ps : List (Int × Int)) : Prop :=
  ∃ l, MapAt w r l ∧ ∀ x, (l.get x = some (.bool true) ∧ Tr ps x x) ∨ (l.get x = none ∧ ¬ Tr ps x x)

def RingsPost (w : World) (ps : List (Int × Int)) (e : Ending) (w' : World) : Prop :=
  ∃ r, e = .returned (.map (some r)) ∧ w.heap.size ≤ r ∧ RingsAt w' r ps ∧ Chg (fun _ => False) w w'

theorem heap_alloc_if (w : World) (o : Obj) (k : Nat) : (w.alloc o).heap[k]? = if k = w.heap.size then some o else w.heap[k]? := by
  show (w.heap.push o)[k]? = _
  rw [Array.getElem?_push]

def S0 : TS := { ord := [], low := fun _ => 0, stack := [], found := fun _ => False }
theorem S0.inv (ps : List (Int × Int)) : TInv ps S0 := ⟨by simp [S0], by simp [S0], by simp [S0], by simp [S0], by simp [S0], by simp [S0], by simp [S0], by simp [S0]⟩
theorem S0.tr : TR S0 [] [] [] [] := ⟨by simp [S0, AL.get_nil], rfl, by simp [S0], by simp [S0, AL.get_nil], by simp [S0, AL.get_nil]⟩

set_option maxHeartbeats 1000000 in
theorem rings_any {w : World} {v : Value} {ps : List (Int × Int)} {B : Nat} (hp : PairsAt w B v ps) (hl : ps.length ≤ 1000) :
    Calls Try.prog 18 #[v] w (RingsPost w ps) := by
  have HP := Lib.hid hp; clear hp
  have hmm := @run_makeMap Try.prog
  have HOU := Lib.hid (outs_any HP.out hl)
  go_enter Try.func18, Try.ntmps18
  go_wp2_with (first
    | (go_at_call 19; refine HOU.out.mono ?_; rintro e w1 ⟨mn, ln, rfl, hmn, hg, hks, hc⟩; have HG := Lib.hid hg; have HKS := Lib.hid hks; have HC := Lib.hid hc; clear hg hks hc)
    | (at_range; refine wpList_rangeM rfl _ 41 rfl Try.underlying41 rfl (HG.out.map.chg (S := fun _ => False) (by repeat (first | exact Chg.alloc _ w1 _ | refine Chg.trans ?_ (Chg.alloc _ _ _))) id) ?_))
  intro w2 hit hc2 hs2
  have hw1 : mn < w1.heap.size := HG.out.map.lt
  have hTM : TM w1.heap.size mn ln [] [] [] [] (.slice none 0 0) [] (succs ps) w2 := by
    have H : ∀ (k : Nat) (o : Obj), _ → w2.heap[k]? = some o := fun k o h => hc2.heap (b := k) (o := o) h id
    have HM : ∀ (k : Nat), _ → MapAt w2 k [] := fun k h => ⟨#[], 0, H k _ h, MapKept.stamped_empty 0, rfl⟩
    have hcc : Chg (fun _ => False) w1 w2 := Chg.trans (by repeat (first | exact Chg.alloc _ w1 _ | refine Chg.trans ?_ (Chg.alloc _ _ _))) hc2
    refine ⟨⟨H _ _ ?_, H _ _ ?_, H _ _ ?_, H _ _ ?_, H _ _ ?_, H _ _ ?_, H _ _ ?_⟩, ⟨HG.out.map.chg hcc id, fun k v hk => ownsRow_base (ownsRow_chg (HG.out.rows k v hk) hcc (fun _ _ => id)) (Nat.zero_le _), HG.out.apart, HG.out.rest⟩, hw1, fun k v g h1 h2 => ((HG.out.rows k v h1).lt g h2).2, HM _ ?_, HM _ ?_, HM _ ?_, HM _ ?_, World.ownsRow_nil _ _ _ _, by rw [hs2]; omega⟩
    all_goals ((repeat (rw [heap_alloc_if, if_neg (by simp only [World.size_alloc]; omega)])); rw [heap_alloc_if, if_pos (by simp only [World.size_alloc])]; try rfl)
  have HT := Lib.hid hTM; clear hTM
  have HIT := Lib.hid hit; clear hit
  have HC2 : Hid (Chg (fun _ => False) w w2) := HC.out.trans (Chg.trans (by repeat (first | exact Chg.alloc _ w1 _ | refine Chg.trans ?_ (Chg.alloc _ _ _))) hc2)
  clear hc2
  have hNw : w.heap.size ≤ w1.heap.size := HC.out.size
  generalize w1.heap.size = N at *
  try simp only [Nat.add_assoc, Nat.reduceAdd] at HIT
  try simp only [Nat.add_assoc, Nat.reduceAdd] at hs2
  try simp only [Nat.add_assoc, Nat.reduceAdd]
  have hs2' : N + 12 ≤ w2.heap.size := by omega
  clear hs2
  go_wp2_with fail
  have hno : ∀ i, i < w.heap.size → ¬ SC N i := by intro i hi h; unfold SC at h; omega
  have HNO := Lib.hid hno; clear hno
  go_loopg [10] (ln.length + 1) (fun g _ wr => ∃ (done : List Int) (S : TS) (lo ll lon lf : AL) (sv : Value), IterAt wr mn (N + 11) ln done ∧ TInv ps S ∧ S.stack = [] ∧ (∀ x ∈ done, x ∈ S.ord) ∧ TR S lo ll lon lf ∧ TM N mn ln lo ll lon lf sv S.stack (succs ps) wr ∧ Chg (fun _ => False) w wr ∧ ln.length - done.length < g)
  case atStart => exact ⟨[], S0, [], [], [], [], _, HIT.out, S0.inv ps, rfl, by simp, S0.tr, HT.out, HC2.out, by simp⟩
  case round =>
    obtain ⟨done, S, lo, ll, lon, lf, sv, hit, hinv, hst, hdo, htr, htm, hc, hlt⟩ := hrel
    clear HT HIT HC2
    have HIT := Lib.hid hit; have HI := Lib.hid hinv; have HS := Lib.hid hst; have HD := Lib.hid hdo; have HR := Lib.hid htr; have HT := Lib.hid htm; have HC := Lib.hid hc; have HLT := Lib.hid hlt
    clear hit hinv hst hdo htr htm hc hlt
    go_wp2_with (at_next; refine wpList_nextM rfl _ rfl rfl HIT.out ?_ ?_)
    · intro hd
      have HDD := Lib.hid hd; clear hd
      obtain ⟨cN, cF, cO, cL, cON, cS, cW⟩ := HT.out.cellFacts
      go_wp2
      go_ret
      refine ⟨N + 1, rfl, by omega, ⟨lf, HT.out.mf, fun x => ?_⟩, HC.out⟩
      rcases HR.out.fnd x with ⟨h1, h2⟩ | ⟨h1, h2⟩
      · exact .inl ⟨h1, HI.out.fsound x h2⟩
      · refine .inr ⟨h1, fun ht => h2 ?_⟩
        have hx : x ∈ S.ord := HD.out x ((HDD.out x).1 ((HKS.out x).2 ht.isNum))
        exact HI.out.fpop x hx (by rw [HS.out]; simp) ht
    · intro x vx w4 hget hnd hit4 hc4 hs4 hen
      have HIT4 := Lib.hid hit4; have HC4 := Lib.hid hc4; clear hit4 hc4 hs4 hget
      have HND := Lib.hid hnd; clear hnd
      have hT4 : TM N mn ln lo ll lon lf sv S.stack (succs ps) w4 := by
        have h := HT.out
        have c := HC4.out
        exact ⟨h.cells.chg c (by omega), h.nextChg c (by intro k hk; omega), h.mnN, h.rowsN, h.mo.chg c (by omega), h.ml.chg c (by omega), h.mon.chg c (by omega), h.mf.chg c (by omega), ownsRow_chg h.row c (fun g hg => by have := h.rowNe hg; omega), Nat.le_trans h.size c.size⟩
      have HT4 := Lib.hid hT4; clear hT4
      have HCC : Hid (Chg (fun _ => False) w w4) := HC.out.trans' HC4.out (fun i hi h => by omega)
      obtain ⟨cN, cF, cO, cL, cON, cS, cW⟩ := HT4.out.cellFacts
      unfold walkFn at cW
      have hO := HT4.out.mo.run_lookup (P := Try.prog) Try.underlying51 Try.underlying3 (zero3 _) x
      rw [HR.out.ordD x] at hO
      have hlen : done.length + 1 ≤ ln.length := by
        have h1 := HIT4.out
        obtain ⟨es, clock, since, c0, seen, _, _, _, _, _, _, _, _, hk, hn⟩ := h1
        have := nodup_length_le hn (m := ln.keys) hk
        simpa [AL.keys] using this
      by_cases hxo : x ∈ S.ord
      · have hnz : (((num S.ord x : Nat) : Int) == 0) = false := by have := num_pos hxo; simp; omega
        have HXO := Lib.hid hxo; clear hxo
        go_wp2
        go_roundg (ln.length - (done.length + 1) + 1)
        case measure => have := HLT.out; omega
        case rel => exact ⟨done ++ [x], S, lo, ll, lon, lf, sv, HIT4.out, HI.out, HS.out, by
            intro y hy
            rcases List.mem_append.1 hy with hy | hy
            · exact HD.out y hy
            · simp at hy; subst hy; exact HXO.out, HR.out, HT4.out, HCC.out, by simp⟩
      · have hnz : (((num S.ord x : Nat) : Int) == 0) = true := by rw [num_zero hxo]; rfl
        have hisn : IsNum ps x := by
          have h1 := HIT4.out
          obtain ⟨es, clock, since, c0, seen, _, _, _, _, _, _, _, _, hk, hn⟩ := h1
          exact (HKS.out x).1 (hk x (by simp))
        have hcall := walk_any ps hl N mn ln (nums ps).length x S w4 lo ll lon lf sv (by omega) ⟨HI.out, hxo, hisn, by rw [HS.out]; simp⟩ HR.out HT4.out
        have HCALL := Lib.hid hcall; clear hcall hisn
        clear hxo
        go_wp2_with (go_at_call 26; refine HCALL.out.mono ?_; rintro e w5 ⟨rfl, S', lo5, ll5, lon5, lf5, sv5, hw5, htr5, htm5, hc5⟩; have HW5 := Lib.hid hw5; have HR5 := Lib.hid htr5; have HT5 := Lib.hid htm5; have HC5 := Lib.hid hc5; clear hw5 htr5 htm5 hc5)
        go_roundg (ln.length - (done.length + 1) + 1)
        case measure => have := HLT.out; omega
        case rel => exact ⟨done ++ [x], S', lo5, ll5, lon5, lf5, sv5, HIT4.out.chg HC5.out (by unfold SC; omega) (by unfold SC; omega), HW5.out.inv, by
            rcases HW5.out.stk with ⟨h, _⟩ | ⟨s, _, _, _, _, ⟨z, hz, _⟩, _⟩
            · rw [h, HS.out]
            · rw [HS.out] at hz; simp at hz, by
            intro y hy
            rcases List.mem_append.1 hy with hy | hy
            · exact HW5.out.ext.subset (HD.out y hy)
            · simp at hy; subst hy; exact HW5.out.nin, HR5.out, HT5.out, HCC.out.trans' HC5.out (fun i hi h => HNO.out i hi h), by simp⟩
end Go.Proofs.Ytochkamjfmdmoaa
