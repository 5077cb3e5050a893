/- What the memory of the walk holds. -/
import Derived.Test.YtochkamjfmdmoaaW6
import Derived.Test.YtochkamjfmdmoaaTa
namespace Go.Proofs.Ytochkamjfmdmoaa
open Go.RowKit

theorem owned_slice {w : World} {base : Nat} {e : TypeId} {size : Nat} {v : Value} {n : Nat} {xs : List Value} (h : w.ownsRow base e size v n xs) : ∃ ao cap, v = .slice ao n cap := by
  rcases h.2 with ⟨rfl, rfl⟩ | ⟨g, cap, cur, rfl, _⟩
  · exact ⟨_, _, rfl⟩
  · exact ⟨_, _, rfl⟩

theorem run_min_nat (P : Program) (w : World) (ts : Array TypeId) (ty : TypeId) (a b : Nat) : (Builtin.min_ ts ty #[.int .i64 (a : Int), .int .i64 (b : Int)]).run P w = .ok (.int .i64 ((min a b : Nat) : Int)) w := by
  simp only [Builtin.min_, List.foldlM, Builtin.min2]
  simp
  rw [Nat.min_def]
  split <;> split <;> omega

theorem owned_nonnil {w : World} {base : Nat} {e : TypeId} {size : Nat} {v : Value} {n : Nat} {xs : List Value} (h : w.ownsRow base e size v n xs) (hn : 0 < n) : ∃ g cap, v = .slice (some ⟨g, 0, none⟩) n cap ∧ n ≤ cap ∧ base ≤ g := by
  rcases h.2 with ⟨rfl, rfl⟩ | ⟨g, cap, cur, rfl, hb, _, hc, _⟩
  · omega
  · exact ⟨g, cap, rfl, hc, hb⟩
theorem owned_take {w : World} {base : Nat} {e : TypeId} {g n cap m : Nat} {xs : List Value} (h : w.ownsRow base e 1 (.slice (some ⟨g, 0, none⟩) n cap) n xs) (hm : m ≤ n) : w.ownsRow base e 1 (.slice (some ⟨g, 0, none⟩) m cap) m (xs.take m) := by
  obtain ⟨h1, h2⟩ := h
  refine ⟨by rw [List.length_take, h1]; omega, ?_⟩
  rcases h2 with ⟨h', _⟩ | ⟨g', cap', cur, h', hb, hg, hc, hcm, hcs, ht⟩
  · cases h'
  · cases h'
    refine .inr ⟨g, cap, cur, rfl, hb, hg, by omega, hcm, hcs, ?_⟩
    rw [← ht, List.take_take]
    congr 1
    omega
theorem owned_cell {w : World} {base : Nat} {e : TypeId} {g n cap : Nat} {l : List Int} (h : w.ownsRow base e 1 (.slice (some ⟨g, 0, none⟩) n cap) n (ints l)) {i : Nat} {x : Int} (hx : l[i]? = some x) : w.cell? ⟨g, i, none⟩ = some (.int .i64 x) := by
  have := World.ownsRow.cells h (g := g) rfl i (.int .i64 x) (by simp [ints, hx])
  rw [Addr.add_lit, Nat.zero_add] at this
  exact this

def walkFn (N : Nat) : Value := .func (.func 26) #[] #[.pointer (some ⟨N + 5, 0, none⟩), .pointer (some ⟨N + 6, 0, none⟩), .pointer (some ⟨N + 9, 0, none⟩), .pointer (some ⟨N + 8, 0, none⟩), .pointer (some ⟨N, 0, none⟩), .pointer (some ⟨N + 2, 0, none⟩), .pointer (some ⟨N + 10, 0, none⟩)]

structure TCells (N mn : Nat) (sv : Value) (w : World) : Prop where
  next : w.heap[N]? = some (.cells #[.map (some mn)] 41)
  found : w.heap[N + 2]? = some (.cells #[.map (some (N + 1))] 38)
  order : w.heap[N + 5]? = some (.cells #[.map (some (N + 3))] 51)
  low : w.heap[N + 6]? = some (.cells #[.map (some (N + 4))] 51)
  on : w.heap[N + 8]? = some (.cells #[.map (some (N + 7))] 38)
  stack : w.heap[N + 9]? = some (.cells #[sv] 24)
  walk : w.heap[N + 10]? = some (.cells #[walkFn N] 52)

theorem TCells.chg {N mn : Nat} {sv : Value} {w w' : World} {S : Nat → Prop} (h : TCells N mn sv w) (c : Chg S w w') (hS : ¬ S N ∧ ¬ S (N + 2) ∧ ¬ S (N + 5) ∧ ¬ S (N + 6) ∧ ¬ S (N + 8) ∧ ¬ S (N + 9) ∧ ¬ S (N + 10)) : TCells N mn sv w' :=
  ⟨c.heap h.next hS.1, c.heap h.found hS.2.1, c.heap h.order hS.2.2.1, c.heap h.low hS.2.2.2.1, c.heap h.on hS.2.2.2.2.1, c.heap h.stack hS.2.2.2.2.2.1, c.heap h.walk hS.2.2.2.2.2.2⟩

theorem cell_of_heap {w : World} {b : Nat} {v : Value} {e : TypeId} (h : w.heap[b]? = some (.cells #[v] e)) : w.cell? ⟨b, 0, none⟩ = some v := by simp [World.cell?, h]
theorem frozen_of_heap {w : World} {b : Nat} {v : Value} {e : TypeId} (h : w.heap[b]? = some (.cells #[v] e)) : w.frozen? ⟨b, 0, none⟩ = false := by simp [World.frozen?, h]

structure TM (N mn : Nat) (ln lo ll lon lf : AL) (sv : Value) (st : List Int) (nx : Int → List Int) (w : World) : Prop where
  cells : TCells N mn sv w
  next : GroupsAt w 0 mn ln nx
  mnN : mn < N
  rowsN : ∀ k v g, ln.get k = some v → v.ownBlock = some g → g < N
  mo : MapAt w (N + 3) lo
  ml : MapAt w (N + 4) ll
  mon : MapAt w (N + 7) lon
  mf : MapAt w (N + 1) lf
  row : w.ownsRow (N + 12) 3 1 sv st.length (ints st)
  size : N + 12 ≤ w.heap.size

/-- the blocks that the walk may turn -/
def SC (N : Nat) (k : Nat) : Prop := k = N + 1 ∨ k = N + 3 ∨ k = N + 4 ∨ k = N + 7 ∨ k = N + 9 ∨ N + 12 ≤ k

section
variable {N mn : Nat} {ln lo ll lon lf : AL} {sv : Value} {st : List Int} {nx : Int → List Int} {w w' : World}

theorem TM.cellFacts (h : TM N mn ln lo ll lon lf sv st nx w) : w.cell? ⟨N, 0, none⟩ = some (.map (some mn)) ∧ w.cell? ⟨N + 2, 0, none⟩ = some (.map (some (N + 1))) ∧ w.cell? ⟨N + 5, 0, none⟩ = some (.map (some (N + 3))) ∧
    w.cell? ⟨N + 6, 0, none⟩ = some (.map (some (N + 4))) ∧ w.cell? ⟨N + 8, 0, none⟩ = some (.map (some (N + 7))) ∧ w.cell? ⟨N + 9, 0, none⟩ = some sv ∧ w.cell? ⟨N + 10, 0, none⟩ = some (walkFn N) :=
  ⟨cell_of_heap h.cells.next, cell_of_heap h.cells.found, cell_of_heap h.cells.order, cell_of_heap h.cells.low, cell_of_heap h.cells.on, cell_of_heap h.cells.stack, cell_of_heap h.cells.walk⟩

theorem TM.nextChg (h : TM N mn ln lo ll lon lf sv st nx w) {S : Nat → Prop} (c : Chg S w w') (hS : ∀ k, k < N → ¬ S k) : GroupsAt w' 0 mn ln nx :=
  ⟨h.next.map.chg c (hS _ h.mnN), fun k v hk => ownsRow_chg (h.next.rows k v hk) c (fun g hg => hS g (h.rowsN k v g hk hg)), h.next.apart, h.next.rest⟩
theorem TM.rowNe (h : TM N mn ln lo ll lon lf sv st nx w) {g : Nat} (hg : sv.ownBlock = some g) : N + 12 ≤ g := (h.row.lt g hg).1

theorem TM.putO (h : TM N mn ln lo ll lon lf sv st nx w) {lo' : AL} (hm : MapAt w' (N + 3) lo') (c : Chg (fun i => i = N + 3) w w') : TM N mn ln lo' ll lon lf sv st nx w' :=
  ⟨h.cells.chg c (by omega), h.nextChg c (by intro k hk; omega), h.mnN, h.rowsN, hm, h.ml.chg c (by omega), h.mon.chg c (by omega), h.mf.chg c (by omega), ownsRow_chg h.row c (fun g hg => by have := h.rowNe hg; omega), Nat.le_trans h.size c.size⟩
theorem TM.putL (h : TM N mn ln lo ll lon lf sv st nx w) {ll' : AL} (hm : MapAt w' (N + 4) ll') (c : Chg (fun i => i = N + 4) w w') : TM N mn ln lo ll' lon lf sv st nx w' :=
  ⟨h.cells.chg c (by omega), h.nextChg c (by intro k hk; omega), h.mnN, h.rowsN, h.mo.chg c (by omega), hm, h.mon.chg c (by omega), h.mf.chg c (by omega), ownsRow_chg h.row c (fun g hg => by have := h.rowNe hg; omega), Nat.le_trans h.size c.size⟩
theorem TM.putOn (h : TM N mn ln lo ll lon lf sv st nx w) {lon' : AL} (hm : MapAt w' (N + 7) lon') (c : Chg (fun i => i = N + 7) w w') : TM N mn ln lo ll lon' lf sv st nx w' :=
  ⟨h.cells.chg c (by omega), h.nextChg c (by intro k hk; omega), h.mnN, h.rowsN, h.mo.chg c (by omega), h.ml.chg c (by omega), hm, h.mf.chg c (by omega), ownsRow_chg h.row c (fun g hg => by have := h.rowNe hg; omega), Nat.le_trans h.size c.size⟩
theorem TM.putF (h : TM N mn ln lo ll lon lf sv st nx w) {lf' : AL} (hm : MapAt w' (N + 1) lf') (c : Chg (fun i => i = N + 1) w w') : TM N mn ln lo ll lon lf' sv st nx w' :=
  ⟨h.cells.chg c (by omega), h.nextChg c (by intro k hk; omega), h.mnN, h.rowsN, h.mo.chg c (by omega), h.ml.chg c (by omega), h.mon.chg c (by omega), hm, ownsRow_chg h.row c (fun g hg => by have := h.rowNe hg; omega), Nat.le_trans h.size c.size⟩

theorem heap_setCell_one {w : World} {b : Nat} {v u : Value} {e : TypeId} (h : w.heap[b]? = some (.cells #[v] e)) : (w.setCell ⟨b, 0, none⟩ u).heap[b]? = some (.cells #[u] e) := by
  simp [World.setCell, Array.getElem?_modify, h]

/-- the stack laid anew: its row in a world in which only the row's blocks have turned, then the variable -/
theorem TM.putS (h : TM N mn ln lo ll lon lf sv st nx w) {S : Nat → Prop} (c : Chg S w w') (hS : ∀ k, S k → N + 12 ≤ k) {sv' : Value} {st' : List Int} (hrow : w'.ownsRow (N + 12) 3 1 sv' st'.length (ints st')) :
    TM N mn ln lo ll lon lf sv' st' nx (w'.setCell ⟨N + 9, 0, none⟩ sv') := by
  have c2 := Chg.setCell w' ⟨N + 9, 0, none⟩ sv'
  have hN : ∀ k, k < N + 12 → ¬ S k := fun k hk hs => by have := hS k hs; omega
  have hcells := h.cells.chg c ⟨hN _ (by omega), hN _ (by omega), hN _ (by omega), hN _ (by omega), hN _ (by omega), hN _ (by omega), hN _ (by omega)⟩
  have hg1 := h.nextChg c (fun k hk => hN k (by omega))
  have hlt : ∀ k v g, ln.get k = some v → v.ownBlock = some g → ¬ (g = N + 9) := fun k v g h1 h2 e => by have := h.rowsN k v g h1 h2; omega
  refine ⟨⟨?_, ?_, ?_, ?_, ?_, ?_, ?_⟩, ?_, h.mnN, h.rowsN, ?_, ?_, ?_, ?_, ?_, ?_⟩
  · exact c2.heap hcells.next (by show ¬ (N = N + 9); omega)
  · exact c2.heap hcells.found (by show ¬ (N + 2 = N + 9); omega)
  · exact c2.heap hcells.order (by show ¬ (N + 5 = N + 9); omega)
  · exact c2.heap hcells.low (by show ¬ (N + 6 = N + 9); omega)
  · exact c2.heap hcells.on (by show ¬ (N + 8 = N + 9); omega)
  · exact heap_setCell_one hcells.stack
  · exact c2.heap hcells.walk (by show ¬ (N + 10 = N + 9); omega)
  · exact ⟨hg1.map.chg c2 (by have := h.mnN; show ¬ (mn = N + 9); omega), fun k v hk => ownsRow_chg (hg1.rows k v hk) c2 (fun g hg => hlt k v g hk hg), hg1.apart, hg1.rest⟩
  · exact (h.mo.chg c (hN _ (by omega))).chg c2 (by show ¬ (N + 3 = N + 9); omega)
  · exact (h.ml.chg c (hN _ (by omega))).chg c2 (by show ¬ (N + 4 = N + 9); omega)
  · exact (h.mon.chg c (hN _ (by omega))).chg c2 (by show ¬ (N + 7 = N + 9); omega)
  · exact (h.mf.chg c (hN _ (by omega))).chg c2 (by show ¬ (N + 1 = N + 9); omega)
  · exact ownsRow_chg hrow c2 (fun g hg e => by have := (hrow.lt g hg).1; have e' : g = N + 9 := e; omega)
  · simp only [World.size_setCell]; exact Nat.le_trans h.size c.size
end

/-- what the maps hold of the plain state -/
structure TR (S : TS) (lo ll lon lf : AL) : Prop where
  ord : ∀ x, lo.get x = if x ∈ S.ord then some (.int .i64 (num S.ord x)) else none
  olen : lo.length = S.ord.length
  low : ∀ x ∈ S.ord, ll.get x = some (.int .i64 (S.low x))
  on : ∀ x, (lon.get x).getD (.bool false) = .bool (decide (x ∈ S.stack))
  fnd : ∀ x, (lf.get x = some (.bool true) ∧ S.found x) ∨ (lf.get x = none ∧ ¬ S.found x)

theorem TR.ordD {S : TS} {lo ll lon lf : AL} (h : TR S lo ll lon lf) (x : Int) : (lo.get x).getD (.int .i64 0) = .int .i64 (num S.ord x) := by
  rw [h.ord x]
  by_cases hx : x ∈ S.ord
  · rw [if_pos hx]; rfl
  · rw [if_neg hx, num_zero hx]; rfl

end Go.Proofs.Ytochkamjfmdmoaa
