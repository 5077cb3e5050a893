/- Maps of slices of ints ('m[k] = append(m[k], x)'), as a function from numbers to lists. No program in sight. -/
import Derived.Test.YtochkamjfmdmoaaSl2
namespace Go.Proofs.Ytochkamjfmdmoaa
open Go.RowKit

/-- where the row lies behind an append of at least one element: where it lay, or in the next new block -/
theorem run_append_block {P : Program} {w : World} {base : Nat} {t ty e : TypeId} {i : TypeInfo} {z : Value} {size bytes : Nat} (ht : P.underlying t = some (.slice e)) (hi : P.info? e = some i) (hz : i.zero = some z)
    (hsize : i.size = size) (hby : i.bytes = bytes) {v : Value} {n : Nat} {xs : List Value} (hown : w.ownsRow base e size v n xs)
    {a : Addr} {m c : Nat} {news : List Value} (hl : news.length = m * size) (hnews : ∀ j u, news[j]? = some u → w.cell? (a.add j) = some u) (h1 : ∀ u ∈ news, u.oneCell' = true) (hm : 0 < m)
    (hn : n + m ≤ 1000000) (hb : bytes ≤ 1024) {v' : Value} {w' : World} (hrun : (Builtin.append_ #[t, t] ty #[v, .slice (some a) m c]).run P w = .ok v' w') :
    v'.ownBlock = v.ownBlock ∨ v'.ownBlock = some w.heap.size := by
  subst hsize; subst hby
  have hbytes : (n + m) * i.bytes ≤ 1000000 * 1024 := Nat.mul_le_mul hn hb
  rcases hown.2 with ⟨rfl, rfl⟩ | ⟨g, cap, cur, rfl, hbg, hg, hnc, hcm, hcs, htake⟩
  · have hr := run_append_nil (P := P) w t ty e i z ht hi hz a m c news hl hnews hm (by omega) (by simp only [Nat.zero_add] at hbytes; omega)
    rw [hr] at hrun
    cases hrun
    exact .inr rfl
  · by_cases hroom : n + m ≤ cap
    · have hfit : n * i.size + news.length ≤ cur.size := by rw [hl, hcs, ← Nat.add_mul]; exact Nat.mul_le_mul_right _ hroom
      have hr := run_append_room (P := P) w t ty e i ht hi g n cap cur hg a m c news hl hnews h1 hroom hfit
      rw [hr] at hrun
      cases hrun
      exact .inl rfl
    · have holds : ∀ j u, xs[j]? = some u → w.cell? ((⟨g, 0, none⟩ : Addr).add j) = some u := hown.cells (g := g) rfl
      have hr := run_append_grow (P := P) w t ty e i z ht hi hz ⟨g, 0, none⟩ n cap xs hown.1 holds a m c news hl hnews (by omega) (by omega) (growslice_fits (by omega) (by omega))
      rw [hr] at hrun
      cases hrun
      exact .inr rfl

/-- append of one value's cells that were just laid in a new block, as a run: the row grows by them; where it lies then -/
theorem run_app1 {P : Program} {w0 : World} {t ty e : TypeId} {z : Value} {size bytes : Nat} (ht : P.underlying t = some (.slice e)) (hi : (P.info? e).map (fun i => (i.zero, i.size, i.bytes)) = some (some z, size, bytes)) (hzs : z.cells.size = size) (hsz : 0 < size) (hby : bytes ≤ 1024)
    {base : Nat} {v : Value} {n : Nat} {xs : List Value} (cells : List Value) (hown : w0.ownsRow base e size v n xs)
    (hl : cells.length = size) (h1 : ∀ u ∈ cells, u.oneCell' = true) (hn : n ≤ 100000) (hbase : base ≤ w0.heap.size) :
    ∃ v' w', (Builtin.append_ #[t, t] ty #[v, .slice (some ⟨w0.heap.size, 0, none⟩) 1 1]).run P (w0.alloc (.cells cells.toArray e)) = .ok v' w' ∧ w'.ownsRow base e size v' (n + 1) (xs ++ cells) ∧
      Chg (fun k => base ≤ k ∧ v.ownBlock = some k) w0 w' ∧ (v'.ownBlock = v.ownBlock ∨ v'.ownBlock = some (w0.heap.size + 1)) := by
  obtain ⟨i, hi1, hz0, hz1, hz2⟩ := info_parts hi
  have hcells : ∀ j u, cells[j]? = some u → (w0.alloc (.cells cells.toArray e)).cell? ((⟨w0.heap.size, 0, none⟩ : Addr).add j) = some u := by
    intro j u hj
    rw [Addr.add_lit, Nat.zero_add, World.cell?_alloc_new]
    simpa using hj
  have hbb : (n + 1) * bytes ≤ 100001 * 1024 := Nat.mul_le_mul (by omega) hby
  obtain ⟨v', w', hr, h2, h3, _⟩ := run_append_own (P := P) (w0.alloc (.cells cells.toArray e)) base t ty e i z size bytes ht hi1 hz0 hz1 hz2 hzs hsz v n xs (hown.alloc _) ⟨w0.heap.size, 0, none⟩ 1 1 cells (by omega) hcells h1 (by simp only [maxLen]; omega) (by omega) (by simp; omega)
  refine ⟨v', w', hr, h2, (Chg.alloc _ w0 _).trans' (Chg.of_grown h3) (fun i _ hi => ⟨(hown.lt i hi.symm).1, hi.symm⟩), ?_⟩
  have := run_append_block ht hi1 hz0 hz1 hz2 (hown.alloc _) (by omega) hcells h1 (by omega) (by omega) hby hr
  simpa using this

/-- block r is a map whose entry at k is a slice that owns the numbers f k; no two share a block -/
structure GroupsAt (w : World) (base r : Nat) (l : AL) (f : Int → List Int) : Prop where
  map : MapAt w r l
  rows : ∀ k v, l.get k = some v → w.ownsRow base 3 1 v (f k).length (ints (f k))
  apart : ∀ k k' v v' g, l.get k = some v → l.get k' = some v' → v.ownBlock = some g → v'.ownBlock = some g → k = k'
  rest : ∀ k, k ∉ l.keys → f k = []

theorem owned_heap {w : World} {base : Nat} {e : TypeId} {size : Nat} {v : Value} {n : Nat} {xs : List Value} (h : w.ownsRow base e size v n xs) {g : Nat} (hg : v.ownBlock = some g) : ∃ cur, w.heap[g]? = some (.cells cur e (0, 0)) := by
  rcases h.2 with ⟨rfl, _⟩ | ⟨g', cap, cur, rfl, _, hgg, _⟩
  · simp [Value.ownBlock] at hg
  · simp [Value.ownBlock] at hg
    subst hg
    exact ⟨cur, hgg⟩
theorem owned_ne_map {w : World} {base : Nat} {e : TypeId} {size : Nat} {v : Value} {n : Nat} {xs : List Value} (h : w.ownsRow base e size v n xs) {r : Nat} {l : AL} (hm : MapAt w r l) : v.ownBlock ≠ some r := by
  intro e'
  obtain ⟨cur, hc⟩ := owned_heap h e'
  obtain ⟨es, clock, hb, _⟩ := hm
  rw [hb] at hc
  cases hc

theorem GroupsAt.nil {w : World} {base r : Nat} (h : MapAt w r []) : GroupsAt w base r [] (fun _ => []) :=
  ⟨h, by simp [AL.get_nil], by simp [AL.get_nil], by simp⟩

theorem GroupsAt.chg {w w' : World} {base r : Nat} {l : AL} {f : Int → List Int} {S : Nat → Prop} (h : GroupsAt w base r l f) (c : Chg S w w') (hr : ¬ S r) (hS : ∀ g, base ≤ g → g < w.heap.size → ¬ S g) : GroupsAt w' base r l f :=
  ⟨h.map.chg c hr, fun k v hk => ownsRow_chg (h.rows k v hk) c (fun g hg => hS g ((h.rows k v hk).lt g hg).1 ((h.rows k v hk).lt g hg).2), h.apart, h.rest⟩

/-- what the slot reads as: owned too, where there is no entry -/
theorem GroupsAt.row {w : World} {base r : Nat} {l : AL} {f : Int → List Int} (h : GroupsAt w base r l f) (k : Int) : w.ownsRow base 3 1 ((l.get k).getD (.slice none 0 0)) (f k).length (ints (f k)) := by
  cases hk : l.get k with
  | some v => exact h.rows k v hk
  | none =>
    rw [h.rest k (AL.get_eq_none.1 hk)]
    exact World.ownsRow_nil _ _ _ _

/-- behind the append: all other rows are as they were -/
theorem GroupsAt.others {w w' : World} {base r : Nat} {l : AL} {f : Int → List Int} (h : GroupsAt w base r l f) {x : Int} (c : Chg (fun k => base ≤ k ∧ ((l.get x).getD (.slice none 0 0)).ownBlock = some k) w w') :
    MapAt w' r l ∧ ∀ k v, l.get k = some v → k ≠ x → w'.ownsRow base 3 1 v (f k).length (ints (f k)) := by
  refine ⟨h.map.chg c (fun hh => owned_ne_map (h.row x) h.map hh.2), fun k v hk hne => ownsRow_chg (h.rows k v hk) c (fun g hg hh => ?_)⟩
  cases hx : l.get x with
  | none => rw [hx] at hh; simp [Value.ownBlock] at hh
  | some v2 => rw [hx] at hh; exact hne (h.apart k x v v2 g hk hx hg hh.2)

/-- .. and the entry laid anew -/
theorem GroupsAt.put {w w' w2 : World} {base r : Nat} {l : AL} {f : Int → List Int} (h : GroupsAt w base r l f) {x y : Int} {v' : Value} (c : Chg (fun k => base ≤ k ∧ ((l.get x).getD (.slice none 0 0)).ownBlock = some k) w w')
    (hown : w'.ownsRow base 3 1 v' ((f x).length + 1) (ints (f x) ++ [.int .i64 y])) (hblk : v'.ownBlock = ((l.get x).getD (.slice none 0 0)).ownBlock ∨ ∃ g, v'.ownBlock = some g ∧ w.heap.size ≤ g)
    (hm : MapAt w2 r (l.put x v')) (c2 : Chg (fun i => i = r) w' w2) : GroupsAt w2 base r (l.put x v') (fun k => if k = x then f x ++ [y] else f k) := by
  obtain ⟨h1, h2⟩ := h.others c
  have stay : ∀ {v : Value} {n : Nat} {xs : List Value}, w'.ownsRow base 3 1 v n xs → w2.ownsRow base 3 1 v n xs := fun hv => ownsRow_chg hv c2 (fun g hg e => owned_ne_map hv h1 (by rw [hg, e]))
  have hnew : ∀ k v g, l.get k = some v → k ≠ x → v.ownBlock = some g → v'.ownBlock = some g → False := by
    intro k v g hk hne hg hg'
    rcases hblk with hb | ⟨g2, hb, hge⟩
    · rw [hb] at hg'
      cases hx : l.get x with
      | none => rw [hx] at hg'; simp [Value.ownBlock] at hg'
      | some v2 => rw [hx] at hg'; exact hne (h.apart k x v v2 g hk hx hg hg')
    · rw [hb] at hg'
      cases hg'
      have := ((h.rows k v hk).lt _ hg).2
      omega
  refine ⟨hm, ?_, ?_, ?_⟩
  · intro k v hk
    rw [AL.get_put] at hk
    by_cases hkx : x = k
    · subst hkx
      rw [if_pos rfl] at hk
      cases hk
      simp only [if_true, List.length_append, List.length_cons, List.length_nil, ints_append]
      exact stay hown
    · rw [if_neg hkx] at hk
      rw [if_neg (Ne.symm hkx)]
      exact stay (h2 k v hk (Ne.symm hkx))
  · intro k k' v u g hk hk' hg hg'
    rw [AL.get_put] at hk hk'
    by_cases hkx : x = k
    · subst hkx
      rw [if_pos rfl] at hk
      cases hk
      by_cases hkx' : x = k'
      · exact hkx'
      · rw [if_neg hkx'] at hk'
        exact (hnew k' u g hk' (Ne.symm hkx') hg' hg).elim
    · rw [if_neg hkx] at hk
      by_cases hkx' : x = k'
      · subst hkx'
        rw [if_pos rfl] at hk'
        cases hk'
        exact (hnew k v g hk (Ne.symm hkx) hg hg').elim
      · rw [if_neg hkx'] at hk'
        exact h.apart k k' v u g hk hk' hg hg'
  · intro k hk
    rw [AL.keys_put] at hk
    have hkx : k ≠ x := by
      intro e
      subst e
      split at hk
      · rename_i hh; exact hk hh
      · simp at hk
    rw [if_neg hkx]
    apply h.rest
    intro hh
    apply hk
    split
    · exact hh
    · simp [hh]

/-- an entry laid as nil where there was none -/
theorem GroupsAt.putNil {w w2 : World} {base r : Nat} {l : AL} {f : Int → List Int} (h : GroupsAt w base r l f) {x : Int} (hx : x ∉ l.keys) (hm : MapAt w2 r (l.put x (.slice none 0 0))) (c2 : Chg (fun i => i = r) w w2) :
    GroupsAt w2 base r (l.put x (.slice none 0 0)) f := by
  have stay : ∀ {v : Value} {n : Nat} {xs : List Value}, w.ownsRow base 3 1 v n xs → w2.ownsRow base 3 1 v n xs := fun hv => ownsRow_chg hv c2 (fun g hg e => owned_ne_map hv h.map (by rw [hg, e]))
  refine ⟨hm, ?_, ?_, ?_⟩
  · intro k v hk
    rw [AL.get_put] at hk
    by_cases hkx : x = k
    · subst hkx
      rw [if_pos rfl] at hk
      cases hk
      rw [h.rest x hx]
      exact World.ownsRow_nil _ _ _ _
    · rw [if_neg hkx] at hk
      exact stay (h.rows k v hk)
  · intro k k' v u g hk hk' hg hg'
    rw [AL.get_put] at hk hk'
    by_cases hkx : x = k
    · subst hkx
      rw [if_pos rfl] at hk
      cases hk
      simp [Value.ownBlock] at hg
    · rw [if_neg hkx] at hk
      by_cases hkx' : x = k'
      · subst hkx'
        rw [if_pos rfl] at hk'
        cases hk'
        simp [Value.ownBlock] at hg'
      · rw [if_neg hkx'] at hk'
        exact h.apart k k' v u g hk hk' hg hg'
  · intro k hk
    apply h.rest
    intro hh
    apply hk
    rw [AL.keys_put]
    split
    · exact hh
    · simp [hh]

end Go.Proofs.Ytochkamjfmdmoaa
