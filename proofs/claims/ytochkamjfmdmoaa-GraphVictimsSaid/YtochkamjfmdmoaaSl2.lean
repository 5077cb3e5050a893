/- More words on slices: append from a slice that reads as ints; a slice's tail and head. No program in sight. -/
import Derived.Test.YtochkamjfmdmoaaSl
import Derived.Laws.AppendOwnNone
namespace Go.Proofs.Ytochkamjfmdmoaa
open Go.RowKit

theorem run_append_none' {P : Program} {w : World} (base : Nat) (t ty e : TypeId) (i : TypeInfo) (size : Nat) (ht : P.underlying t = some (.slice e)) (hi : P.info? e = some i)
    (v : Value) (n : Nat) (xs : List Value) (hown : w.ownsRow base e size v n xs) (c : Nat) :
    (Builtin.append_ #[t, t] ty #[v, .slice none 0 c]).run P w = .ok v w := by
  rcases hown.2 with ⟨rfl, rfl⟩ | ⟨g, cap, cur, rfl, _, _, hnc, _⟩
  · simp [Builtin.append_, run_underlying ht, sizeOf, typeInfo, hi, Builtin.lenOf, Builtin.firstCells]
  · simp [Builtin.append_, run_underlying ht, sizeOf, typeInfo, hi, Builtin.lenOf, Builtin.firstCells, hnc, storeCells]

theorem oneCell_ints (l : List Int) : ∀ u ∈ ints l, u.oneCell' = true := by
  intro u hu
  obtain ⟨x, _, rfl⟩ := List.mem_map.1 hu
  rfl

/-- append(dst, src...), src ints: a nil or an empty one too -/
theorem wpList_appInts {P : Program} {w : World} {ops : Array Oper} {rest : List Oper} {o : Oper} {a : Act} {Q : Exit → Act → World → Prop} (hgd : o.guard = none) (s x : Operand) (t : TypeId)
    (ho : o.op = .call { callee := .builtin .append, args := #[s, x], argTypes := #[t, t] })
    {e : TypeId} {z : Value} {bytes : Nat} (ht : P.underlying t = some (.slice e)) (hi : (P.info? e).map (fun i => (i.zero, i.size, i.bytes)) = some (some z, 1, bytes)) (hzs : z.cells.size = 1) (hby : bytes ≤ 1024)
    {base : Nat} {v : Value} {n : Nat} {xs : List Value} {B : Nat} {u : Value} {l : List Int} (hs : a.eval s = v) (hown : w.ownsRow base e 1 v n xs) (hx : a.eval x = u) (hu : IntsAt w B u l)
    (hn : n + l.length ≤ 1000000) (hbase : base ≤ w.heap.size)
    (h : ∀ v' w', w'.ownsRow base e 1 v' (n + l.length) (xs ++ ints l) → Chg (fun k => base ≤ k ∧ v.ownBlock = some k) w w' → wpList P ops Q rest (a.put o.dst v') w') : wpList P ops Q (o :: rest) a w := by
  obtain ⟨i, hi1, hz0, hz1, hz2⟩ := info_parts hi
  obtain ⟨ao, cap, rfl, hlc, hc⟩ := hu
  cases ao with
  | none =>
    have hl : l = [] := by
      cases l with
      | nil => rfl
      | cons y r => obtain ⟨b, off, h', _⟩ := hc 0 y rfl; cases h'
    subst hl
    refine wpList_plain hgd fun K hK => ?_
    have hrun := run_append_none' (P := P) (w := w) base t o.type e i 1 ht hi1 v n xs hown cap
    unfold Oper.wp
    simp only [List.length_nil] at hx
    simp [execOp, ho, resolve, invoke, builtin, hs, hx, hrun, Result.andThen]
    exact hK _ _ (h v w (by simpa [ints] using hown) (Chg.refl _ _))
  | some ad =>
    have had : ∀ j u, (ints l)[j]? = some u → w.cell? (ad.add j) = some u := by
      intro j u hj
      unfold ints at hj
      rw [List.getElem?_map] at hj
      obtain ⟨y, hy, rfl⟩ := Option.map_eq_some_iff.1 hj
      obtain ⟨b, off, e', _, hcell⟩ := hc j y hy
      cases e'
      rw [Addr.add_lit]; exact hcell
    refine wpList_append_own _ hgd s x t ho base e i z 1 bytes ht hi1 hz0 hz1 hz2 hzs (by decide) v n xs hs hown ad l.length cap (ints l) hx (by simp [ints]) had (oneCell_ints l) (by simp only [maxLen]; omega) ?_ hbase ?_
    · have : (n + l.length) * bytes ≤ 1000000 * 1024 := Nat.mul_le_mul hn hby
      omega
    · intro v' w' h2 h3 _
      exact h v' w' h2 ((Chg.of_grown h3).mono (fun i _ hi => ⟨(hown.lt i hi.symm).1, hi.symm⟩))

theorem run_slice_tail {P : Program} {w : World} {t e : TypeId} {ti : TypeInfo} {B : Nat} {v : Value} {l : List Int} {j : Nat} (ht : P.underlying t = some (.slice e)) (hi : P.info? e = some ti) (hs : ti.size = 1) (h : IntsAt w B v l) (hj : j ≤ l.length) : ∃ v', (Instr.sliceAt t v (some (.int .i64 j)) none none).run P w = .ok v' w ∧ IntsAt w B v' (l.drop j) := by
  obtain ⟨ao, cap, rfl, hlc, hc⟩ := h
  refine ⟨.slice (if cap = j then ao else ao.map (·.add (j * 1))) (l.length - j) (cap - j), ?_, ?_⟩
  · simp [Instr.sliceAt, Instr.slice, run_underlying ht, Instr.sliceBounds, Instr.sliceBound, asIntOf, sizeOf, typeInfo, hi, hs, Result.andThen, hj]
  · refine ⟨_, _, by rw [List.length_drop], by rw [List.length_drop]; omega, fun i x hx => ?_⟩
    rw [List.getElem?_drop] at hx
    obtain ⟨b, off, rfl, hb, hcell⟩ := hc _ _ hx
    have hlt := (List.getElem?_eq_some_iff.1 hx).1
    by_cases hcj : cap = j
    · omega
    · rw [if_neg hcj]
      exact ⟨b, off + j, by simp [Addr.add_lit], hb, by rw [Nat.add_assoc]; exact hcell⟩

/-- v[j:] -/
theorem wpList_tail {P : Program} {w : World} {ops : Array Oper} {rest : List Oper} {o : Oper} {a : Act} {Q : Exit → Act → World → Prop} (hgd : o.guard = none) (x lo : Operand) (t : TypeId)
    (ho : o.op = .slice t x (some lo) none none) {e : TypeId} {z : Value} {bytes : Nat} (ht : P.underlying t = some (.slice e)) (hi : (P.info? e).map (fun i => (i.zero, i.size, i.bytes)) = some (some z, 1, bytes))
    {B : Nat} {v : Value} {l : List Int} {j : Nat} (hs : a.eval x = v) (hlo : a.eval lo = .int .i64 j) (hp : IntsAt w B v l) (hj : j ≤ l.length)
    (h : ∀ v', IntsAt w B v' (l.drop j) → wpList P ops Q rest (a.put o.dst v') w) : wpList P ops Q (o :: rest) a w := by
  obtain ⟨i, hi1, hz0, hz1, hz2⟩ := info_parts hi
  obtain ⟨v', hrun, hv'⟩ := run_slice_tail (P := P) ht hi1 hz1 hp hj
  refine wpList_plain hgd fun K hK => ?_
  unfold Oper.wp
  simp [execOp, ho, hs, hlo, hrun, Result.andThen]
  exact hK _ _ (h v' hv')

end Go.Proofs.Ytochkamjfmdmoaa
