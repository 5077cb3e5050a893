/- Walks: the methods of the heap's numbers. -/
import Derived.Test.YtochkamjfmdmoaaW9
import Derived.Test.YtochkamjfmdmoaaHe
import Derived.BigRegion
namespace Go.Proofs.Ytochkamjfmdmoaa
open Go.RowKit

theorem meth_push (a : Addr) (w : World) : (method 178 45 (.pointer (some a)) "Push").run Try.prog w = .ok (50, .pointer (some a)) w := by kernel_rfl
theorem meth_pop (a : Addr) (w : World) : (method 178 45 (.pointer (some a)) "Pop").run Try.prog w = .ok (49, .pointer (some a)) w := by kernel_rfl
theorem meth_len' (a : Addr) (w : World) : (method 178 45 (.pointer (some a)) "Len").run Try.prog w = match w.cell? a with
  | some v => .ok (46, v) w
  | none => match w.farLoad Try.prog a false with
    | .ok (v, _) => .ok (46, v) w
    | .error h => .halt h w := by kernel_rfl
theorem meth_less' (a : Addr) (w : World) : (method 178 45 (.pointer (some a)) "Less").run Try.prog w = match w.cell? a with
  | some v => .ok (47, v) w
  | none => match w.farLoad Try.prog a false with
    | .ok (v, _) => .ok (47, v) w
    | .error h => .halt h w := by kernel_rfl
theorem meth_swap' (a : Addr) (w : World) : (method 178 45 (.pointer (some a)) "Swap").run Try.prog w = match w.cell? a with
  | some v => .ok (48, v) w
  | none => match w.farLoad Try.prog a false with
    | .ok (v, _) => .ok (48, v) w
    | .error h => .halt h w := by kernel_rfl
theorem meth_len {a : Addr} {w : World} {v : Value} (h : w.cell? a = some v) : (method 178 45 (.pointer (some a)) "Len").run Try.prog w = .ok (46, v) w := by rw [meth_len', h]
theorem meth_less {a : Addr} {w : World} {v : Value} (h : w.cell? a = some v) : (method 178 45 (.pointer (some a)) "Less").run Try.prog w = .ok (47, v) w := by rw [meth_less', h]
theorem meth_swap {a : Addr} {w : World} {v : Value} (h : w.cell? a = some v) : (method 178 45 (.pointer (some a)) "Swap").run Try.prog w = .ok (48, v) w := by rw [meth_swap', h]

theorem len_any (w : World) (ao : Option Addr) (n c : Nat) : Calls Try.prog 46 #[.slice ao n c] w (IntPost w n) := by
  go_enter Try.func46, Try.ntmps46
  go_wp2
  go_ret
  exact ⟨rfl, rfl⟩

theorem less_any {w : World} {g n c : Nat} {l : List Int} {base : Nat} (hrow : w.ownsRow base 3 1 (.slice (some ⟨g, 0, none⟩) n c) n (ints l)) {i j : Nat} (hi : i < n) (hj : j < n) :
    Calls Try.prog 47 #[.slice (some ⟨g, 0, none⟩) n c, .int .i64 i, .int .i64 j] w (BoolPost' w (decide (el l i < el l j))) := by
  have hl : l.length = n := by have := hrow.1; rw [ints_length] at this; omega
  have ci := owned_cell hrow (el_some (l := l) (i := i) (by omega))
  have cj := owned_cell hrow (el_some (l := l) (i := j) (by omega))
  clear hrow hl
  have h1 : (i : Int) < (n : Int) := by omega
  have h2 : (j : Int) < (n : Int) := by omega
  obtain ⟨x, hx⟩ : ∃ x, el l i = x := ⟨_, rfl⟩
  obtain ⟨y, hy⟩ : ∃ x, el l j = x := ⟨_, rfl⟩
  rw [hx] at ci ⊢
  rw [hy] at cj ⊢
  clear hx hy
  go_enter Try.func47, Try.ntmps47
  go_wp2_with fail
  go_quiet (fail)
  go_wp2
  go_ret
  exact ⟨rfl, Chg.drewN _ _ _⟩

def SwapPost (w : World) (g n c : Nat) (base : Nat) (l : List Int) (e : Ending) (w' : World) : Prop :=
  e = .returned (.tuple #[]) ∧ w'.ownsRow base 3 1 (.slice (some ⟨g, 0, none⟩) n c) n (ints l) ∧ Chg (fun k => k = g) w w'

theorem ints_set (l : List Int) (i : Nat) (x : Int) : (ints l).set i (.int .i64 x) = ints (l.set i x) := by simp [ints, List.map_set]

theorem swap_any {w : World} {g n c : Nat} {l : List Int} {base : Nat} (hrow : w.ownsRow base 3 1 (.slice (some ⟨g, 0, none⟩) n c) n (ints l)) {i j : Nat} (hi : i < n) (hj : j < n) :
    Calls Try.prog 48 #[.slice (some ⟨g, 0, none⟩) n c, .int .i64 i, .int .i64 j] w (SwapPost w g n c base (swp l i j)) := by
  have hl : l.length = n := by have := hrow.1; rw [ints_length] at this; omega
  have ci := owned_cell hrow (el_some (l := l) (i := i) (by omega))
  have cj := owned_cell hrow (el_some (l := l) (i := j) (by omega))
  have fi := World.ownsRow.frozenAt hrow i
  have fj := World.ownsRow.frozenAt hrow j
  have HROW := Lib.hid hrow; clear hrow hl
  have h1 : (i : Int) < (n : Int) := by omega
  have h2 : (j : Int) < (n : Int) := by omega
  obtain ⟨x, hx⟩ : ∃ x, el l i = x := ⟨_, rfl⟩
  obtain ⟨y, hy⟩ : ∃ x, el l j = x := ⟨_, rfl⟩
  rw [hx] at ci
  rw [hy] at cj
  have HX := Lib.hid hx; have HY := Lib.hid hy; clear hx hy
  have fin : ∀ x' y', y' = el l j → x' = el l i → SwapPost w g n c base (swp l i j) (.returned (.tuple #[])) (((w.setCell ⟨g, i, none⟩ (.int .i64 y')).setCell ⟨g, j, none⟩ (.int .i64 x')).drew) := by
    intro x' y' hy' hx'
    have s1 := HROW.out.stored i (.int .i64 y')
    have s2 := s1.1.stored j (.int .i64 x')
    refine ⟨rfl, ?_, ?_⟩
    · have := s2.1
      rw [ints_set, ints_set, hx', hy'] at this
      rw [hx', hy']
      exact this
    · exact (((Chg.of_grown s1.2).trans (Chg.of_grown s2.2)).mono (fun i _ h => by simpa using h)).trans (Chg.drew _ _)
  have FIN := Lib.hid fin; clear fin
  by_cases hij : i = j
  · subst hij
    go_enter Try.func48, Try.ntmps48
    go_wp2_with fail
    go_region
    go_end0
    exact FIN.out _ _ HX.out.symm HX.out.symm
  · go_enter Try.func48, Try.ntmps48
    go_wp2_with fail
    go_region
    go_end0
    exact FIN.out _ _ HY.out.symm HX.out.symm

/-- the variable fb holds a slice that owns the numbers l -/
structure HeapAt (w : World) (fb : Nat) (sv : Value) (l : List Int) : Prop where
  cell : w.heap[fb]? = some (.cells #[sv] 43)
  row : w.ownsRow 0 3 1 sv l.length (ints l)

/-- from one state of the heap to the next -/
structure HChg (fb : Nat) (w : World) (sv : Value) (w' : World) (sv' : Value) : Prop where
  chg : Chg (fun k => k = fb ∨ sv.ownBlock = some k) w w'
  blk : sv'.ownBlock = sv.ownBlock ∨ ∃ g, sv'.ownBlock = some g ∧ w.heap.size ≤ g

theorem HChg.refl (fb : Nat) (w : World) (sv : Value) : HChg fb w sv w sv := ⟨Chg.refl _ _, .inl rfl⟩
theorem HChg.trans {fb : Nat} {w w' w'' : World} {sv sv' sv'' : Value} (h : HChg fb w sv w' sv') (k : HChg fb w' sv' w'' sv'') : HChg fb w sv w'' sv'' := by
  refine ⟨h.chg.trans' k.chg (fun i hi hh => ?_), ?_⟩
  · rcases hh with hh | hh
    · exact .inl hh
    · rcases h.blk with e | ⟨g, e, hg⟩
      · exact .inr (by rw [← e]; exact hh)
      · rw [e] at hh; cases hh; omega
  · rcases k.blk with e | ⟨g, e, hg⟩
    · rcases h.blk with e2 | ⟨g, e2, hg⟩
      · exact .inl (e.trans e2)
      · exact .inr ⟨g, e.trans e2, hg⟩
    · exact .inr ⟨g, e, Nat.le_trans h.chg.size hg⟩

theorem HeapAt.ne {w : World} {fb : Nat} {sv : Value} {l : List Int} (h : HeapAt w fb sv l) : sv.ownBlock ≠ some fb := by
  intro e
  obtain ⟨cur, hc⟩ := owned_heap h.row e
  rw [h.cell] at hc
  cases hc

/-- only the row's block has turned, and the value is what it was -/
theorem HeapAt.swap {w w' : World} {fb g n c : Nat} {l l' : List Int} (h : HeapAt w fb (.slice (some ⟨g, 0, none⟩) n c) l) (hl' : l'.length = n) (hr : w'.ownsRow 0 3 1 (.slice (some ⟨g, 0, none⟩) n c) n (ints l')) (hc : Chg (fun k => k = g) w w') :
    HeapAt w' fb (.slice (some ⟨g, 0, none⟩) n c) l' ∧ HChg fb w (.slice (some ⟨g, 0, none⟩) n c) w' (.slice (some ⟨g, 0, none⟩) n c) := by
  have hne := h.ne
  simp only [Value.ownBlock, ne_eq, Option.some.injEq] at hne
  exact ⟨⟨hc.heap h.cell (fun e => hne e.symm), by rw [hl']; exact hr⟩, ⟨hc.mono (fun i _ e => .inr (by rw [e]; rfl)), .inl rfl⟩⟩

def PopPost (w : World) (fb : Nat) (q : List Int) (x : Int) (sv : Value) (e : Ending) (w' : World) : Prop :=
  e = .returned (.iface 3 (.int .i64 x)) ∧ ∃ sv', HeapAt w' fb sv' q ∧ HChg fb w sv w' sv'

theorem pop_any {w : World} {fb : Nat} {sv : Value} {q : List Int} {x : Int} (h : HeapAt w fb sv (q ++ [x])) (hq : q.length ≤ 100000) : Calls Try.prog 49 #[.pointer (some ⟨fb, 0, none⟩)] w (PopPost w fb q x sv) := by
  obtain ⟨g, c, rfl, hc, _⟩ := owned_nonnil h.row (by simp)
  have hcell := cell_of_heap h.cell
  have hfr := frozen_of_heap h.cell
  have hrow := h.row
  rw [List.length_append, List.length_singleton] at hrow hc hcell
  have hx := owned_cell hrow (i := q.length) (x := x) (by simp)
  have hH := h
  rw [List.length_append, List.length_singleton] at hH
  have HH := Lib.hid hH; have HROW := Lib.hid hrow
  clear hH hrow h
  obtain ⟨n, hn⟩ : ∃ n, q.length = n := ⟨_, rfl⟩
  rw [hn] at hcell hx hc hq HROW HH
  have HN := Lib.hid hn; clear hn
  rw [List.length_append, List.length_singleton, HN.out]
  have e1 : ((n + 1 : Nat) : Int) - 1 = (n : Int) := by omega
  have h0 : (0 : Int) ≤ (n : Int) := by omega
  have h1 : (n : Int) < ((n + 1 : Nat) : Int) := by omega
  have h2 : (n : Int) ≤ (c : Int) := by omega
  go_enter Try.func49, Try.ntmps49
  go_wp2
  go_ret
  refine ⟨rfl, .slice (some ⟨g, 0, none⟩) n c, ⟨heap_setCell_one HH.out.cell, ?_⟩, ⟨(Chg.setCell w ⟨fb, 0, none⟩ _).mono (fun i _ h => .inl h), .inl rfl⟩⟩
  have h3 := owned_take HROW.out (m := n) (by omega)
  rw [ints_append, List.take_left' (by rw [ints_length, HN.out])] at h3
  rw [HN.out]
  refine ownsRow_chg h3 (Chg.setCell w ⟨fb, 0, none⟩ _) (fun g' hg' e => HH.out.ne ?_)
  have : g' = fb := e
  rw [← this]
  exact hg'
end Go.Proofs.Ytochkamjfmdmoaa
