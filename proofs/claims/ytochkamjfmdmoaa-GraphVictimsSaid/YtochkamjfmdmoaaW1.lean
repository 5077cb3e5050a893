/- Walks of small functions: own, in, ready, SameInts, Without. -/
import Derived.Test.YtochkamjfmdmoaaRows
import Derived.Test.YtochkamjfmdmoaaSl
import Derived.WalkKit
import Derived.WalkSpells
import Derived.WalkLawsBesides
import Derived.Lib.Hide
import Derived.Deep.QuietTactic
import Derived.BigQuiet
import Derived.Deep.LoopGhost
namespace Go.Proofs.Ytochkamjfmdmoaa
open Go.RowKit

theorem Try.info30 : (Try.prog.info? 30).map (fun i => (i.zero, i.size, i.bytes)) = some (some (.agg #[.int .i64 0, .int .i64 0]), 2, 16) := by kernel_rfl
theorem Try.info3 : (Try.prog.info? 3).map (fun i => (i.zero, i.size, i.bytes)) = some (some (.int .i64 0), 1, 8) := by kernel_rfl

/-- append of one value's cells that were just laid in a new block: the row grows by them -/
theorem wpList_app1 {P : Program} {w w0 : World} {ops : Array Oper} {rest : List Oper} {o : Oper} {a : Act} {Q : Exit → Act → World → Prop} (hgd : o.guard = none) (s x : Operand) (t : TypeId)
    (ho : o.op = .call { callee := .builtin .append, args := #[s, x], argTypes := #[t, t] })
    {e : TypeId} {z : Value} {size bytes : Nat} (ht : P.underlying t = some (.slice e)) (hi : (P.info? e).map (fun i => (i.zero, i.size, i.bytes)) = some (some z, size, bytes)) (hzs : z.cells.size = size) (hsz : 0 < size) (hby : bytes ≤ 1024)
    {base : Nat} {v : Value} {n : Nat} {xs : List Value} (cells : List Value) (hw : w = w0.alloc (.cells cells.toArray e)) (hs : a.eval s = v) (hown : w0.ownsRow base e size v n xs)
    (hx : a.eval x = .slice (some ⟨w0.heap.size, 0, none⟩) 1 1) (hl : cells.length = size) (h1 : ∀ u ∈ cells, u.oneCell' = true) (hn : n ≤ 1000000) (hbase : base ≤ w0.heap.size)
    (h : ∀ v' w', w'.ownsRow base e size v' (n + 1) (xs ++ cells) → Chg (fun k => base ≤ k ∧ v.ownBlock = some k) w0 w' → wpList P ops Q rest (a.put o.dst v') w') : wpList P ops Q (o :: rest) a w := by
  obtain ⟨i, hi1, hz0, hz1, hz2⟩ := info_parts hi
  subst hw
  refine wpList_append_own _ hgd s x t ho base e i z size bytes ht hi1 hz0 hz1 hz2 hzs hsz v n xs hs (hown.alloc _) ⟨w0.heap.size, 0, none⟩ 1 1 cells hx (by omega) ?_ h1 (by simp only [maxLen]; omega) ?_ (by simp; omega) ?_
  · intro j u hj
    rw [Addr.add_lit, Nat.zero_add, World.cell?_alloc_new]
    simpa using hj
  · have : (n + 1) * bytes ≤ 1000001 * 1024 := Nat.mul_le_mul (by omega) hby
    omega
  · intro v' w' h2 h3 _
    exact h v' w' h2 ((Chg.alloc _ w0 _).trans' (Chg.of_grown h3) (fun i _ hi => ⟨(hown.lt i hi.symm).1, hi.symm⟩))

def OwnPost (w : World) (ps : List (Int × Int)) (e : Ending) (w' : World) : Prop :=
  ∃ v', e = .returned v' ∧ w'.ownsRow w.heap.size 30 2 v' ps.length (flat ps) ∧ Chg (fun _ => False) w w'

theorem own_any {w : World} {v : Value} {ps : List (Int × Int)} {B : Nat} (hp : PairsAt w B v ps) (hl : ps.length ≤ 1000) :
    Calls Try.prog 9 #[v] w (OwnPost w ps) := by
  obtain ⟨ao, cap, rfl, -⟩ := id hp
  have HP := Lib.hid hp; clear hp
  go_enter Try.func9, Try.ntmps9
  go_wp2
  go_loopw [3, 4] (fun v i wr => ∃ k : Nat, k ≤ ps.length ∧ i = .int .i64 k ∧ wr.ownsRow w.heap.size 30 2 v k (flat (ps.take k)) ∧ Chg (fun _ => False) w wr) (fun _ i _ => ps.length - (intOf i).toNat)
  case atStart => exact ⟨0, Nat.zero_le _, rfl, World.ownsRow_nil _ _ _ _, Chg.refl _ _⟩
  case round =>
    obtain ⟨k, hk, rfl, hown, hc⟩ := hrel
    have HO := Lib.hid hown; have HC := Lib.hid hc; clear hown hc
    by_cases hlt : k < ps.length
    · obtain ⟨ao', cap', hv', hcells⟩ := HP.out
      obtain ⟨b, off, rfl, hbB, c1, c2⟩ := hcells k _ (List.getElem?_eq_getElem hlt)
      cases hv'
      clear hcells
      have c1' := HC.out.cell c1 id
      have c2' := HC.out.cell c2 id
      clear c1 c2
      have E : Hid (flat (ps.take (k+1)) = flat (ps.take k) ++ [.int .i64 ps[k].1, .int .i64 ps[k].2]) := by show _ = _; rw [List.take_succ_eq_append_getElem hlt, flat_append]; rfl
      generalize ps[k].1 = x at *
      generalize ps[k].2 = y at *
      go_wp2_with (at_builtin; refine wpList_app1 rfl _ _ 22 rfl Try.underlying22 Try.info30 rfl (by decide) (by decide) [.int .i64 x, .int .i64 y] rfl rfl HO.out rfl rfl (by intro u hu; simp at hu; rcases hu with rfl | rfl <;> rfl) (by omega) HC.out.size ?_; intro v' w1 ho1 hc1; have HO1 := Lib.hid ho1; have HC1 := Lib.hid hc1; clear ho1 hc1)
      go_roundw
      case rel => exact ⟨k + 1, by omega, by go_num, by rw [E.out]; exact HO1.out, HC.out.trans' HC1.out (fun i hi h => by have := h.1; omega)⟩
      case measure => simp [intOf]; omega
    · go_wp2
      go_ret
      have : k = ps.length := by omega
      subst this
      refine ⟨_, rfl, ?_, HC.out⟩
      have := HO.out
      rwa [List.take_length] at this

def BoolPost (w : World) (b : Bool) (e : Ending) (w' : World) : Prop := e = .returned (.bool b) ∧ w = w'

theorem in_any {w : World} {v : Value} {l : List Int} {B : Nat} (n : Int) (hp : IntsAt w B v l) (hl : l.length ≤ 1000000) :
    Calls Try.prog 23 #[v, .int .i64 n] w (BoolPost w (decide (n ∈ l))) := by
  obtain ⟨ao, cap, rfl, -⟩ := id hp
  have HP := Lib.hid hp; clear hp
  go_enter Try.func23, Try.ntmps23
  go_wp2
  go_loop [5] (fun i => ∃ k : Nat, k ≤ l.length ∧ i = .int .i64 k ∧ n ∉ l.take k) (fun i => l.length - (intOf i).toNat)
  case atStart => exact ⟨0, Nat.zero_le _, rfl, by simp⟩
  case round =>
    obtain ⟨k, hk, rfl, hne⟩ := hrel
    have HN := Lib.hid hne; clear hne
    by_cases hlt : k < l.length
    · obtain ⟨ao', cap', hv', -, hcells⟩ := HP.out
      obtain ⟨b, off, rfl, hbB, c1⟩ := hcells k _ (List.getElem?_eq_getElem hlt)
      cases hv'
      clear hcells
      obtain ⟨x, hx⟩ : ∃ x, l[k] = x := ⟨_, rfl⟩
      rw [hx] at c1
      have HX := Lib.hid hx; clear hx
      by_cases hxn : (x == n) = true
      · go_wp2
        go_ret
        refine ⟨?_, rfl⟩
        have : n ∈ l := by rw [← beq_iff_eq.1 hxn, ← HX.out]; exact List.getElem_mem _
        simp [this]
      · have hxn : (x == n) = false := by simpa using hxn
        go_wp2
        go_round
        case rel =>
          refine ⟨k + 1, by omega, by go_num, ?_⟩
          rw [List.take_succ_eq_append_getElem hlt, HX.out]
          have h1 := HN.out
          have h2 : x ≠ n := beq_eq_false_iff_ne.1 hxn
          simp [h1, Ne.symm h2]
        case measure => simp [intOf]; omega
    · go_wp2
      go_ret
      refine ⟨?_, rfl⟩
      have h1 := HN.out
      have : l.take k = l := List.take_of_length_le (by omega)
      rw [this] at h1
      simp [h1]

end Go.Proofs.Ytochkamjfmdmoaa
