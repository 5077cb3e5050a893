/- General words for the walks: which blocks may have turned; maps as lists of pairs; ranges. No program in sight. -/
import Derived.WalkKit
import Derived.Maps.RangeRun
import Derived.Maps.Keyed
import Derived.Deep.Draws
namespace Go.Proofs.Ytochkamjfmdmoaa
open Go.RowKit Go.MapKept
open Go.ChangeMaps (setBlock heap_setBlock_same heap_setBlock_other)

/-- Only blocks in S (and new ones) may have turned. -/
structure Chg (S : Nat → Prop) (w w' : World) : Prop where
  os : w'.os = w.os
  tape : w'.tape = w.tape
  output : w'.output = w.output
  size : w.heap.size ≤ w'.heap.size
  block : ∀ k, k < w.heap.size → ¬ S k → w'.heap[k]? = w.heap[k]?

theorem Chg.refl (S : Nat → Prop) (w : World) : Chg S w w := ⟨rfl, rfl, rfl, Nat.le_refl _, fun _ _ _ => rfl⟩
theorem Chg.trans {S : Nat → Prop} {a b c : World} (h : Chg S a b) (k : Chg S b c) : Chg S a c :=
  ⟨k.os.trans h.os, k.tape.trans h.tape, k.output.trans h.output, Nat.le_trans h.size k.size,
   fun i hi hn => (k.block i (Nat.lt_of_lt_of_le hi h.size) hn).trans (h.block i hi hn)⟩
/-- the second step may turn blocks that are new since the first world -/
theorem Chg.trans' {S T : Nat → Prop} {a b c : World} (h : Chg S a b) (k : Chg T b c) (hT : ∀ i, i < a.heap.size → T i → S i) : Chg S a c :=
  ⟨k.os.trans h.os, k.tape.trans h.tape, k.output.trans h.output, Nat.le_trans h.size k.size,
   fun i hi hn => (k.block i (Nat.lt_of_lt_of_le hi h.size) (fun ht => hn (hT i hi ht))).trans (h.block i hi hn)⟩
theorem Chg.mono {S T : Nat → Prop} {w w' : World} (h : Chg S w w') (hS : ∀ i, i < w.heap.size → S i → T i) : Chg T w w' :=
  ⟨h.os, h.tape, h.output, h.size, fun k hk hn => h.block k hk (fun hs => hn (hS k hk hs))⟩
theorem Chg.of_grown {w w' : World} {row : Option Nat} (h : w.grownBy w' row) : Chg (fun k => some k = row) w w' :=
  ⟨h.os, h.tape, h.output, h.size, fun k hk hn => h.block k hk hn⟩
theorem Chg.grown {w w' : World} {row : Option Nat} (h : Chg (fun k => some k = row) w w') : w.grownBy w' row :=
  ⟨h.os, h.tape, h.output, h.size, fun k hk hn => h.block k hk hn⟩
theorem Chg.of_below {B : Nat} {w w' : World} (h : Below B w w') : Chg (fun k => B ≤ k) w w' :=
  ⟨h.os, h.tape, h.output, h.size, fun k _ hn => h.block k (by omega)⟩
theorem Chg.below {w w' : World} (h : Chg (fun _ => False) w w') : Below w.heap.size w w' :=
  ⟨h.os, h.tape, h.output, h.size, fun k hk => h.block k hk (fun x => x)⟩
theorem Chg.cell {S : Nat → Prop} {w w' : World} (h : Chg S w w') {a : Addr} {v : Value} (hc : w.cell? a = some v) (hn : ¬ S a.block) : w'.cell? a = some v :=
  (World.cell?_of_block (h.block a.block (World.block_lt_of_cell? w a hc) hn)).trans hc
theorem Chg.heap {S : Nat → Prop} {w w' : World} (h : Chg S w w') {b : Nat} {o : Obj} (hc : w.heap[b]? = some o) (hn : ¬ S b) : w'.heap[b]? = some o :=
  (h.block b (Array.getElem?_eq_some_iff.1 hc).1 hn).trans hc
theorem Chg.alloc (S : Nat → Prop) (w : World) (o : Obj) : Chg S w (w.alloc o) := (Chg.of_grown (World.grownBy_alloc w o none)).mono (by simp)
theorem Chg.drew (S : Nat → Prop) (w : World) : Chg S w w.drew := ⟨rfl, rfl, rfl, Nat.le_refl _, fun _ _ _ => rfl⟩
theorem Chg.drewN (S : Nat → Prop) (w : World) (n : Nat) : Chg S w (w.drewN n) := ⟨rfl, rfl, rfl, Nat.le_refl _, fun _ _ _ => rfl⟩
theorem Chg.setCell (w : World) (a : Addr) (v : Value) : Chg (fun k => k = a.block) w (w.setCell a v) :=
  ⟨rfl, rfl, rfl, by simp, fun k _ hn => Below.heap_setCell _ _ _ _ hn⟩
theorem Chg.setBlock {w : World} {b : Nat} {o o' : Obj} (hb : w.heap[b]? = some o) : Chg (fun k => k = b) w (setBlock w b o') :=
  ⟨rfl, rfl, rfl, by simp [ChangeMaps.setBlock], fun k _ hn => (MapKept.heap_set hb).2 k hn⟩
theorem ownsRow_chg {w w' : World} {S : Nat → Prop} {base : Nat} {e : TypeId} {size : Nat} {v : Value} {n : Nat} {xs : List Value} (h : w.ownsRow base e size v n xs) (hc : Chg S w w') (hn : ∀ g, v.ownBlock = some g → ¬ S g) :
    w'.ownsRow base e size v n xs := by
  refine ⟨h.1, ?_⟩
  rcases h.2 with hn' | ⟨g, cap, cur, rfl, hb, hgg, rest⟩
  · exact .inl hn'
  · exact .inr ⟨g, cap, cur, rfl, hb, hc.heap hgg (hn g rfl), rest⟩

/-! ### maps with int keys, as lists of pairs -/
abbrev AL := List (Int × Value)
def AL.get (l : AL) (k : Int) : Option Value := (l.find? (fun p => p.1 == k)).map (·.2)
def AL.put (l : AL) (k : Int) (v : Value) : AL := if (l.any (fun p => p.1 == k)) = true then l.map (fun p => if p.1 = k then (k, v) else p) else l ++ [(k, v)]
def AL.del (l : AL) (k : Int) : AL := l.filter (fun p => !(p.1 == k))
def AL.keys (l : AL) : List Int := l.map (·.1)

theorem AL.get_nil (k : Int) : AL.get [] k = none := rfl
theorem AL.get_eq_none {l : AL} {k : Int} : l.get k = none ↔ k ∉ l.keys := by
  unfold AL.get AL.keys
  simp only [Option.map_eq_none_iff, List.find?_eq_none, List.mem_map, not_exists, not_and, beq_iff_eq]
theorem AL.mem_keys {l : AL} {k : Int} : k ∈ l.keys ↔ ∃ v, l.get k = some v := by
  have := @AL.get_eq_none l k
  cases h : l.get k with
  | none => simp [this.1 h]
  | some v => simp only [Option.some.injEq, exists_eq', iff_true]; exact Classical.byContradiction fun hn => by rw [this.2 hn] at h; cases h
theorem AL.mem_of_get {l : AL} {k : Int} {v : Value} (h : l.get k = some v) : (k, v) ∈ l := by
  unfold AL.get at h
  obtain ⟨p, hp, rfl⟩ := Option.map_eq_some_iff.1 h
  have h1 := List.find?_some hp
  have h2 := List.mem_of_find?_eq_some hp
  simp only [beq_iff_eq] at h1
  rw [← h1]; exact h2
theorem AL.get_of_mem {l : AL} (hn : l.keys.Nodup) {k : Int} {v : Value} (h : (k, v) ∈ l) : l.get k = some v := by
  induction l with
  | nil => cases h
  | cons p r ih =>
    simp only [AL.keys, List.map_cons, List.nodup_cons] at hn
    unfold AL.get
    simp only [List.find?_cons]
    rcases List.mem_cons.1 h with rfl | h
    · simp
    · have : p.1 ≠ k := fun e => hn.1 (e ▸ List.mem_map.2 ⟨_, h, rfl⟩)
      rw [beq_eq_false_iff_ne.2 this]
      exact ih hn.2 h
theorem AL.any_key {l : AL} {k : Int} : (l.any (fun p => p.1 == k)) = true ↔ k ∈ l.keys := by
  simp [AL.keys, List.any_eq_true]
theorem AL.keys_put (l : AL) (k : Int) (v : Value) : (l.put k v).keys = if k ∈ l.keys then l.keys else l.keys ++ [k] := by
  unfold AL.put
  by_cases h : k ∈ l.keys
  · rw [if_pos (AL.any_key.2 h), if_pos h]
    unfold AL.keys
    rw [List.map_map]
    apply List.map_congr_left
    intro p _
    simp only [Function.comp]
    split <;> simp_all
  · rw [if_neg (fun e => h (AL.any_key.1 e)), if_neg h]
    simp [AL.keys]
theorem AL.get_put (l : AL) (k : Int) (v : Value) (j : Int) : (l.put k v).get j = if k = j then some v else l.get j := by
  unfold AL.put
  by_cases h : (l.any (fun p => p.1 == k)) = true
  · rw [if_pos h]
    replace h := AL.any_key.1 h
    induction l with
    | nil => cases h
    | cons p r ih =>
      unfold AL.get at ih ⊢
      simp only [List.map_cons, List.find?_cons]
      by_cases hp : p.1 = k
      · subst hp
        simp only [if_true]
        by_cases hj : p.1 = j
        · simp [hj]
        · rw [beq_eq_false_iff_ne.2 hj]
          simp only [if_neg hj]
          by_cases hr : p.1 ∈ AL.keys r
          · rw [ih hr, if_neg hj]
          · have : r.map (fun q => if q.1 = p.1 then (p.1, v) else q) = r := by
              conv => rhs; rw [← List.map_id r]
              apply List.map_congr_left
              intro q hq
              have : q.1 ≠ p.1 := fun e => hr (e ▸ List.mem_map.2 ⟨q, hq, rfl⟩)
              simp [this]
            rw [this]
      · simp only [if_neg hp]
        have hr : k ∈ AL.keys r := by
          simp only [AL.keys, List.map_cons, List.mem_cons] at h
          rcases h with h | h
          · exact absurd h.symm hp
          · exact h
        by_cases hj : p.1 = j
        · subst hj; simp [Ne.symm hp]
        · rw [beq_eq_false_iff_ne.2 hj]
          exact ih hr
  · rw [if_neg h]
    have h : k ∉ l.keys := fun e => h (AL.any_key.2 e)
    unfold AL.get
    rw [List.find?_append]
    by_cases hj : k = j
    · subst hj
      have := AL.get_eq_none.2 h
      unfold AL.get at this
      rw [Option.map_eq_none_iff] at this
      simp [this]
    · simp [hj]
theorem AL.nodup_put {l : AL} (h : l.keys.Nodup) (k : Int) (v : Value) : (l.put k v).keys.Nodup := by
  rw [AL.keys_put]
  split
  · exact h
  · rename_i hk
    exact List.nodup_append.2 ⟨h, by simp, by simp; intro a ha e; exact hk (e ▸ ha)⟩
theorem AL.length_put (l : AL) (k : Int) (v : Value) : (l.put k v).length = if k ∈ l.keys then l.length else l.length + 1 := by
  have : (l.put k v).keys.length = (l.put k v).length := by simp [AL.keys]
  rw [← this, AL.keys_put]
  split <;> simp [AL.keys]

def MapAt (w : World) (b : Nat) (l : AL) : Prop :=
  ∃ es clock, w.heap[b]? = some (.map es clock) ∧ Stamped es clock ∧ es.toList.map (fun e => (e.key, e.val)) = l.map (fun p => (Value.int .i64 p.1, p.2))

theorem MapAt.chg {w w' : World} {b : Nat} {l : AL} {S : Nat → Prop} (h : MapAt w b l) (c : Chg S w w') (hn : ¬ S b) : MapAt w' b l := by
  obtain ⟨es, clock, hb, r⟩ := h
  exact ⟨es, clock, c.heap hb hn, r⟩
theorem MapAt.lt {w : World} {b : Nat} {l : AL} (h : MapAt w b l) : b < w.heap.size := by
  obtain ⟨es, clock, hb, _⟩ := h
  exact (Array.getElem?_eq_some_iff.1 hb).1
theorem MapAt.made (w : World) : MapAt (w.alloc (.map #[] 0)) w.heap.size [] :=
  ⟨#[], 0, (MapKept.heap_alloc w _).1, stamped_empty 0, rfl⟩

theorem entries_keys {es : Array MapEntry} {l : AL} (h : es.toList.map (fun e => (e.key, e.val)) = l.map (fun p => (Value.int .i64 p.1, p.2))) : es.toList.map (·.key) = l.keys.map (Value.int .i64) := by
  have := congrArg (List.map Prod.fst) h
  simpa [AL.keys, Function.comp_def] using this
theorem MapAt.nodup {w : World} {b : Nat} {l : AL} (h : MapAt w b l) : l.keys.Nodup := by
  obtain ⟨es, clock, _, hs, he⟩ := h
  have h3 := hs.2.2
  rw [entries_keys he] at h3
  unfold List.Nodup at h3 ⊢
  rw [List.pairwise_map] at h3
  exact h3.imp (fun hab e => hab (by rw [e]))

theorem nodup_map_inj {α β : Type} {f : α → β} : ∀ {l : List α}, (l.map f).Nodup → ∀ {x y : α}, x ∈ l → y ∈ l → f x = f y → x = y
  | [], _, _, _, hx, _, _ => by cases hx
  | a :: r, hn, x, y, hx, hy, e => by
    simp only [List.map_cons, List.nodup_cons] at hn
    rcases List.mem_cons.1 hx with rfl | hx
    · rcases List.mem_cons.1 hy with rfl | hy
      · rfl
      · exact absurd (List.mem_map.2 ⟨y, hy, e.symm⟩) hn.1
    · rcases List.mem_cons.1 hy with hya | hy
      · exact absurd (List.mem_map.2 ⟨x, hx, hya ▸ e⟩) hn.1
      · exact nodup_map_inj hn.2 hx hy e

theorem entries_size {es : Array MapEntry} {l : AL} (h : es.toList.map (fun e => (e.key, e.val)) = l.map (fun p => (Value.int .i64 p.1, p.2))) : es.size = l.length := by
  have := congrArg List.length h
  simpa using this

theorem isKey_all {es : Array MapEntry} {l : AL} (h : es.toList.map (fun e => (e.key, e.val)) = l.map (fun p => (Value.int .i64 p.1, p.2))) : ∀ x ∈ es.toList, IsKey (.int .i64) x.key := by
  intro x hx
  have : x.key ∈ es.toList.map (·.key) := List.mem_map.2 ⟨x, hx, rfl⟩
  rw [entries_keys h] at this
  obtain ⟨k, _, e⟩ := List.mem_map.1 this
  rw [← e]; rfl

theorem entries_at {es : Array MapEntry} {l : AL} (h : es.toList.map (fun e => (e.key, e.val)) = l.map (fun p => (Value.int .i64 p.1, p.2))) {j : Nat} {e : MapEntry} (hj : es.toList[j]? = some e) : ∃ k, l[j]? = some (k, e.val) ∧ e.key = .int .i64 k := by
  have := congrArg (fun q => q[j]?) h
  simp only [List.getElem?_map, hj, Option.map_some] at this
  obtain ⟨p, hp, e'⟩ := Option.map_eq_some_iff.1 this.symm
  simp only [Prod.mk.injEq] at e'
  exact ⟨p.1, by rw [hp, ← e'.2], e'.1.symm⟩

/-- what findKey finds -/
theorem MapAt.find {P : Program} {w : World} {kt : TypeId} {es : Array MapEntry} {l : AL} (hk : P.underlying kt = some (.int .i64)) (he : es.toList.map (fun e => (e.key, e.val)) = l.map (fun p => (Value.int .i64 p.1, p.2))) (hnd : l.keys.Nodup) (k : Int) :
    ((Instr.findKey kt (.int .i64 k) es.toList).run P w = .ok none w ∧ l.get k = none ∧ ∀ x ∈ es.toList, x.key ≠ .int .i64 k) ∨
    ∃ j e, (Instr.findKey kt (.int .i64 k) es.toList).run P w = .ok (some (j, e.val)) w ∧ l.get k = some e.val ∧ es.toList[j]? = some e ∧ e.key = .int .i64 k := by
  rcases findNow_spec (d := .int .i64) (k := .int .i64 k) rfl es.toList 0 (isKey_all he) with ⟨h1, h2⟩ | ⟨j, e, h1, h2, h3⟩
  · refine .inl ⟨run_findKey hk h1, AL.get_eq_none.2 (fun hm => ?_), h2⟩
    have hm' : Value.int .i64 k ∈ es.toList.map (·.key) := by rw [entries_keys he]; exact List.mem_map.2 ⟨k, hm, rfl⟩
    obtain ⟨x, hx, e⟩ := List.mem_map.1 hm'
    exact h2 x hx e
  · refine .inr ⟨j, e, by simpa using run_findKey hk h1, ?_, h2, h3⟩
    obtain ⟨k', hk', e'⟩ := entries_at he h2
    rw [h3] at e'
    cases e'
    exact AL.get_of_mem hnd (List.mem_of_getElem? hk')

section laws
variable {P : Program} {w : World} {b : Nat} {l : AL} {t kt et : TypeId}

theorem MapAt.run_lookup (h : MapAt w b l) (ht : P.underlying t = some (.map kt et)) (hk : P.underlying kt = some (.int .i64)) {z : Value} (hz : (zeroValue et).run P w = .ok z w) (k : Int) :
    (Instr.lookup t (.map (some b)) (.int .i64 k) false).run P w = .ok ((l.get k).getD z) w := by
  have hnd := h.nodup
  obtain ⟨es, clock, hb, hs, he⟩ := h
  rcases MapAt.find (P := P) (w := w) hk he hnd k with ⟨h1, h2, _⟩ | ⟨j, e, h1, h2, _⟩
  · simp [Instr.lookup, run_underlying ht, MapKept.run_getObj_map hb, run_checkKey hk (show IsKey (.int .i64) (.int .i64 k) from rfl), h1, h2, hz, Result.andThen]
  · simp [Instr.lookup, run_underlying ht, MapKept.run_getObj_map hb, run_checkKey hk (show IsKey (.int .i64) (.int .i64 k) from rfl), h1, h2, Result.andThen]

theorem MapAt.run_lookup_ok (h : MapAt w b l) (ht : P.underlying t = some (.map kt et)) (hk : P.underlying kt = some (.int .i64)) {z : Value} (hz : (zeroValue et).run P w = .ok z w) (k : Int) :
    (Instr.lookup t (.map (some b)) (.int .i64 k) true).run P w = .ok (.tuple #[(l.get k).getD z, .bool (l.get k).isSome]) w := by
  have hnd := h.nodup
  obtain ⟨es, clock, hb, hs, he⟩ := h
  rcases MapAt.find (P := P) (w := w) hk he hnd k with ⟨h1, h2, _⟩ | ⟨j, e, h1, h2, _⟩
  · simp [Instr.lookup, run_underlying ht, MapKept.run_getObj_map hb, run_checkKey hk (show IsKey (.int .i64) (.int .i64 k) from rfl), h1, h2, hz, Result.andThen]
  · simp [Instr.lookup, run_underlying ht, MapKept.run_getObj_map hb, run_checkKey hk (show IsKey (.int .i64) (.int .i64 k) from rfl), h1, h2, Result.andThen]

theorem MapAt.run_len (h : MapAt w b l) (ht : P.underlying t = some (.map kt et)) (ty : TypeId) :
    (Builtin.len_ #[t] ty #[.map (some b)]).run P w = .ok (.int .i64 l.length) w := by
  obtain ⟨es, clock, hb, hs, he⟩ := h
  simp [Builtin.len_, run_underlying ht, MapKept.run_getObj_map hb, goInt, Result.andThen, entries_size he]

theorem MapAt.run_update (h : MapAt w b l) (ht : P.underlying t = some (.map kt et)) (hk : P.underlying kt = some (.int .i64)) (k : Int) (v : Value) :
    ∃ w', (Instr.mapUpdate t (.map (some b)) (.int .i64 k) v).run P w = .ok () w' ∧ MapAt w' b (l.put k v) ∧ Chg (fun i => i = b) w w' ∧ w'.heap.size = w.heap.size := by
  have hnd := h.nodup
  obtain ⟨es, clock, hb, hs, he⟩ := h
  have hsz : ∀ o, (setBlock w b o).heap.size = w.heap.size := fun o => by simp [ChangeMaps.setBlock]
  rcases MapAt.find (P := P) (w := w) hk he hnd k with ⟨h1, h2, h3⟩ | ⟨j, e, h1, h2, h3, h4⟩
  · have hkn : k ∉ l.keys := AL.get_eq_none.1 h2
    refine ⟨setBlock w b (.map (es.push { key := .int .i64 k, val := v, born := clock }) (clock + 1)), ?_, ⟨_, _, heap_setBlock_same hb _, stamped_push hs h3, ?_⟩, Chg.setBlock hb, hsz _⟩
    · simp [Instr.mapUpdate, run_underlying ht, MapKept.run_getObj_map hb, run_checkKey hk (show IsKey (.int .i64) (.int .i64 k) from rfl), h1, run_setObj_map _ hb, Result.andThen, ChangeMaps.setBlock]
    · unfold AL.put
      rw [if_neg (fun hh => hkn (AL.any_key.1 hh))]
      simp [he]
  · have hkm : k ∈ l.keys := AL.mem_keys.2 ⟨_, h2⟩
    have hje : es[j]? = some e := by simpa using h3
    refine ⟨setBlock w b (.map (es.modify j fun x => { x with key := .int .i64 k, val := v }) clock), ?_, ⟨_, _, heap_setBlock_same hb _, stamped_modify hs j _ (fun _ _ => rfl) (fun x _ hx => ?_), ?_⟩, Chg.setBlock hb, hsz _⟩
    · simp [Instr.mapUpdate, run_underlying ht, MapKept.run_getObj_map hb, run_checkKey hk (show IsKey (.int .i64) (.int .i64 k) from rfl), h1, hje, h4, run_keyThatStays (d := .int .i64) (show IsKey (.int .i64) (.int .i64 k) from rfl), run_setObj_map _ hb, Result.andThen, ChangeMaps.setBlock]
    · rw [hje] at hx; cases hx; exact h4.symm
    · unfold AL.put
      rw [if_pos (AL.any_key.2 hkm)]
      obtain ⟨k', hk', ek⟩ := entries_at he h3
      rw [h4] at ek
      cases ek
      apply List.ext_getElem?
      intro i
      have hei := congrArg (fun q => q[i]?) he
      simp only [List.getElem?_map, Array.getElem?_toList] at hei
      simp only [List.getElem?_map, Array.getElem?_toList, Array.getElem?_modify, Option.map_map]
      by_cases hij : j = i
      · subst hij
        simp [hje, hk']
      · rw [if_neg hij, hei]
        cases hli : l[i]? with
        | none => simp
        | some p =>
          have hne : p.1 ≠ k := by
            intro e'
            have hd := hnd
            have hi1 : l.keys[i]? = some k := by simp [AL.keys, hli, e']
            have hj1 : l.keys[j]? = some k := by simp [AL.keys, hk']
            have hil : i < l.keys.length := (List.getElem?_eq_some_iff.1 hi1).1
            have hjl : j < l.keys.length := (List.getElem?_eq_some_iff.1 hj1).1
            exact hij ((List.getElem?_inj hil hd).1 (hi1.trans hj1.symm)).symm
          simp [hne]

theorem MapAt.run_delete (h : MapAt w b l) (ht : P.underlying t = some (.map kt et)) (hk : P.underlying kt = some (.int .i64)) (k : Int) (ty : TypeId) :
    ∃ w', (Builtin.delete_ #[t, kt] ty #[.map (some b), .int .i64 k]).run P w = .ok (.tuple #[]) w' ∧ MapAt w' b (l.del k) ∧ Chg (fun i => i = b) w w' ∧ w'.heap.size = w.heap.size := by
  have hnd := h.nodup
  obtain ⟨es, clock, hb, hs, he⟩ := h
  have hsz : ∀ o, (setBlock w b o).heap.size = w.heap.size := fun o => by simp [ChangeMaps.setBlock]
  rcases MapAt.find (P := P) (w := w) hk he hnd k with ⟨h1, h2, h3⟩ | ⟨j, e, h1, h2, h3, h4⟩
  · have hkn : k ∉ l.keys := AL.get_eq_none.1 h2
    refine ⟨setBlock w b (.map es clock), ?_, ⟨_, _, heap_setBlock_same hb _, hs, ?_⟩, Chg.setBlock hb, hsz _⟩
    · simp [Builtin.delete_, run_underlying ht, MapKept.run_getObj_map hb, run_checkKey hk (show IsKey (.int .i64) (.int .i64 k) from rfl), h1, run_setObj_map _ hb, Result.andThen, ChangeMaps.setBlock]
    · rw [he]
      congr 1
      symm
      unfold AL.del
      refine List.filter_eq_self.2 (fun p hp => ?_)
      simp only [Bool.not_eq_true', beq_eq_false_iff_ne, ne_eq]
      intro e; exact hkn (List.mem_map.2 ⟨p, hp, e⟩)
  · have hje : es[j]? = some e := by simpa using h3
    have hjl : j < es.size := (Array.getElem?_eq_some_iff.1 hje).1
    refine ⟨setBlock w b (.map (es.eraseIdxIfInBounds j) clock), ?_, ⟨_, _, heap_setBlock_same hb _, stamped_erase hs j, ?_⟩, Chg.setBlock hb, hsz _⟩
    · simp [Builtin.delete_, run_underlying ht, MapKept.run_getObj_map hb, run_checkKey hk (show IsKey (.int .i64) (.int .i64 k) from rfl), h1, run_setObj_map _ hb, Result.andThen, ChangeMaps.setBlock]
    · obtain ⟨k', hk', ek⟩ := entries_at he h3
      rw [h4] at ek
      cases ek
      have e1 : (es.eraseIdxIfInBounds j).toList = es.toList.eraseIdx j := by
        unfold Array.eraseIdxIfInBounds
        rw [dif_pos hjl, Array.toList_eraseIdx]
      have em : ∀ {α β : Type} (f : α → β) (q : List α) (j : Nat), (q.eraseIdx j).map f = (q.map f).eraseIdx j := by
        intro α β f q
        induction q with
        | nil => intro j; simp
        | cons a r ih => intro j; cases j <;> simp [ih]
      rw [e1, em, he, ← em]
      congr 1
      -- the only entry at k
      clear he h3 hje hjl e1 h1 h2
      unfold AL.del
      induction l generalizing j with
      | nil => simp at hk'
      | cons p r ih =>
        simp only [AL.keys, List.map_cons, List.nodup_cons] at hnd
        cases j with
        | zero =>
          simp only [List.getElem?_cons_zero, Option.some.injEq] at hk'
          subst hk'
          simp only [List.eraseIdx_cons_zero, List.filter_cons, beq_self_eq_true, Bool.not_true, Bool.false_eq_true, if_false]
          symm
          refine List.filter_eq_self.2 (fun p hp => ?_)
          simp only [Bool.not_eq_true', beq_eq_false_iff_ne, ne_eq]
          intro e'; exact hnd.1 (List.mem_map.2 ⟨p, hp, e'⟩)
        | succ j =>
          simp only [List.getElem?_cons_succ] at hk'
          have hne : p.1 ≠ k := fun e' => hnd.1 (e' ▸ List.mem_map.2 ⟨_, List.mem_of_getElem? hk', rfl⟩)
          simp only [List.eraseIdx_cons_succ, List.filter_cons]
          rw [beq_eq_false_iff_ne.2 hne]
          simp only [Bool.not_false, if_true]
          rw [ih hnd.2 j hk']
end laws

/-! ### a range over a map that the loop does not write -/

/-- block r is an iterator over map b, whose entries at the keys 'done' have come (in that order) -/
def IterAt (w : World) (b r : Nat) (l : AL) (done : List Int) : Prop :=
  ∃ es clock since c0 seen, w.heap[b]? = some (.map es clock) ∧ Stamped es clock ∧ es.toList.map (fun e => (e.key, e.val)) = l.map (fun p => (Value.int .i64 p.1, p.2)) ∧
    w.heap[r]? = some (.mapIter (some b) since seen c0) ∧ (∀ x ∈ es.toList, x.born < since) ∧ since ≤ c0 ∧ since ≤ clock ∧
    (∀ x ∈ es.toList, seen.contains x.born = true ↔ ∃ k ∈ done, x.key = .int .i64 k) ∧ (∀ k ∈ done, k ∈ l.keys) ∧ done.Nodup

theorem IterAt.map {w : World} {b r : Nat} {l : AL} {done : List Int} (h : IterAt w b r l done) : MapAt w b l := by
  obtain ⟨es, clock, since, c0, seen, hb, hs, he, _⟩ := h
  exact ⟨es, clock, hb, hs, he⟩
theorem IterAt.chg {w w' : World} {b r : Nat} {l : AL} {done : List Int} {S : Nat → Prop} (h : IterAt w b r l done) (c : Chg S w w') (hb : ¬ S b) (hr : ¬ S r) : IterAt w' b r l done := by
  obtain ⟨es, clock, since, c0, seen, h1, h2, h3, h4, rest⟩ := h
  exact ⟨es, clock, since, c0, seen, c.heap h1 hb, h2, h3, c.heap h4 hr, rest⟩
theorem IterAt.lt {w : World} {b r : Nat} {l : AL} {done : List Int} (h : IterAt w b r l done) : r < w.heap.size := by
  obtain ⟨es, clock, since, c0, seen, h1, h2, h3, h4, rest⟩ := h
  exact (Array.getElem?_eq_some_iff.1 h4).1
theorem IterAt.ne {w : World} {b r : Nat} {l : AL} {done : List Int} (h : IterAt w b r l done) : r ≠ b := by
  obtain ⟨es, clock, since, c0, seen, h1, h2, h3, h4, rest⟩ := h
  intro e; subst e; rw [h1] at h4; cases h4

section laws
variable {P : Program} {w : World} {b r : Nat} {l : AL} {t kt et : TypeId} {done : List Int}

theorem MapAt.run_range (h : MapAt w b l) (ht : P.underlying t = some (.map kt et)) :
    ∃ w', (Instr.range t (.map (some b))).run P w = .ok (.pointer (some ⟨w.heap.size, 0, none⟩)) w' ∧ IterAt w' b w.heap.size l [] ∧ Chg (fun _ => False) w w' ∧ w'.heap.size = w.heap.size + 1 := by
  have hlt := h.lt
  obtain ⟨es, clock, hb, hs, he⟩ := h
  refine ⟨_, run_range_map w t kt et b es clock ht hb, ⟨es, clock, clock, clock, #[], ?_, hs, he, heap_alloc_new w _, hs.1, Nat.le_refl _, Nat.le_refl _, ?_, by simp, by simp⟩, Chg.alloc _ w _, by simp⟩
  · rw [heap_alloc_old w _ hlt]; exact hb
  · intro x _; simp

theorem IterAt.run_next (h : IterAt w b r l done) (ty : TypeId) :
    ((∀ k, k ∈ l.keys ↔ k ∈ done) ∧ (Instr.next (.pointer (some ⟨r, 0, none⟩)) false ty).run P w = .ok (.tuple #[.bool false]) w) ∨
    ∃ k v w', (Instr.next (.pointer (some ⟨r, 0, none⟩)) false ty).run P w = .ok (.tuple #[.bool true, .int .i64 k, v]) w' ∧ l.get k = some v ∧ k ∉ done ∧ IterAt w' b r l (done ++ [k]) ∧
      Chg (fun i => i = r) w w' ∧ w'.heap.size = w.heap.size ∧ (Instr.entry (.pointer (some ⟨r, 0, none⟩))).run P w' = .ok (.tuple #[.int .i64 k, v]) w' := by
  have hne := h.ne
  have hnd := h.map.nodup
  obtain ⟨es, clock, since, c0, seen, hb, hs, he, hr, hold, hsc, hscl, hseen, hkeys, hdn⟩ := h
  rcases run_next_at (P := P) w ty r b since c0 seen es clock hr hb hold hsc with ⟨h0, hrun⟩ | ⟨e, hel, w1, hw1, hrun⟩
  · refine .inl ⟨fun k => ⟨fun hk => ?_, hkeys k⟩, hrun⟩
    have hm' : Value.int .i64 k ∈ es.toList.map (·.key) := by rw [entries_keys he]; exact List.mem_map.2 ⟨k, hk, rfl⟩
    obtain ⟨x, hx, ex⟩ := List.mem_map.1 hm'
    have : leftOf es seen = #[] := Array.eq_empty_of_size_eq_zero h0
    unfold leftOf at this
    rw [Array.filter_eq_empty_iff] at this
    have hc : seen.contains x.born = true := by simpa using this x (by simpa using hx)
    obtain ⟨k', hk', ek⟩ := (hseen x hx).1 hc
    rw [ex] at ek
    cases ek
    exact hk'
  · have hm : e ∈ es.toList ∧ seen.contains e.born = false := by
      unfold leftOf at hel
      simpa using hel
    obtain ⟨hme, hnc⟩ := hm
    obtain ⟨j, hj⟩ := List.getElem?_of_mem hme
    obtain ⟨k, hlk, hek⟩ := entries_at he hj
    have hkd : k ∉ done := fun hd => by
      rw [(hseen e hme).2 ⟨k, hd, hek⟩] at hnc
      cases hnc
    have hr1 : w1.heap = w.heap := by rcases hw1 with rfl | rfl <;> rfl
    have hr1' : w1.heap[r]? = some (.mapIter (some b) since seen c0) := by rw [hr1]; exact hr
    have hc1 : Chg (fun i => i = r) w w1 := by rcases hw1 with rfl | rfl <;> exact ⟨rfl, rfl, rfl, Nat.le_refl _, fun _ _ _ => rfl⟩
    have hsame : (setBlock w1 r (.mapIter (some b) since (seen.push e.born) clock)).heap[r]? = some (.mapIter (some b) since (seen.push e.born) clock) := (MapKept.heap_set hr1').1
    have hother : (setBlock w1 r (.mapIter (some b) since (seen.push e.born) clock)).heap[b]? = some (.map es clock) := ((MapKept.heap_set hr1').2 b (Ne.symm hne)).trans (by rw [hr1]; exact hb)
    refine .inr ⟨k, e.val, _, by rw [hek] at hrun; exact hrun, AL.get_of_mem hnd (List.mem_of_getElem? hlk), hkd, ⟨es, clock, since, clock, seen.push e.born, hother, hs, he, hsame, hold, hscl, hscl, ?_, ?_, ?_⟩, hc1.trans (Chg.setBlock hr1'), by simp [ChangeMaps.setBlock, hr1], ?_⟩
    · intro x hx
      rw [Array.contains_push]
      have hb' := hseen x hx
      constructor
      · intro hc
        simp only [Bool.or_eq_true, beq_iff_eq] at hc
        rcases hc with hc | hc
        · obtain ⟨k', hk', ek⟩ := hb'.1 hc
          exact ⟨k', by simp [hk'], ek⟩
        · have hxe : x = e := by
            have hn := hs.2.1
            have := nodup_map_inj hn hx hme (by simpa using hc)
            exact this
          exact ⟨k, by simp, hxe ▸ hek⟩
      · rintro ⟨k', hk', ek⟩
        simp only [List.mem_append, List.mem_singleton] at hk'
        simp only [Bool.or_eq_true, beq_iff_eq]
        rcases hk' with hk' | rfl
        · exact .inl (hb'.2 ⟨k', hk', ek⟩)
        · right
          have hn := hs.2.2
          have := nodup_map_inj hn hx hme (by rw [ek, hek])
          rw [this]
    · intro k' hk'
      simp only [List.mem_append, List.mem_singleton] at hk'
      rcases hk' with hk' | rfl
      · exact hkeys k' hk'
      · exact List.mem_map.2 ⟨_, List.mem_of_getElem? hlk, rfl⟩
    · exact List.nodup_append.2 ⟨hdn, by simp, by simp; intro a ha e'; exact hkd (e' ▸ ha)⟩
    · have := run_entry_at (P := P) _ r b since seen es clock e hsame hother hme hs.2.1
      rw [hek] at this
      exact this
end laws

/-- m[k] = v, for the walk -/
theorem wpList_mapPut {P : Program} {w : World} {ops : Array Oper} {rest : List Oper} {o : Oper} {a : Act} {Q : Exit → Act → World → Prop} (hgd : o.guard = none) (m x v : Operand) (t : TypeId) (ho : o.op = .mapUpdate t m x v)
    {kt et : TypeId} (ht : P.underlying t = some (.map kt et)) (hk : P.underlying kt = some (.int .i64)) {b : Nat} {l : AL} {k : Int} {val : Value} (hm : a.eval m = .map (some b)) (hmap : MapAt w b l) (hx : a.eval x = .int .i64 k) (hv : a.eval v = val)
    (h : ∀ w', MapAt w' b (l.put k val) → Chg (fun i => i = b) w w' → w'.heap.size = w.heap.size → wpList P ops Q rest (a.put o.dst undef) w') : wpList P ops Q (o :: rest) a w := by
  obtain ⟨w', hrun, h1, h2, h3⟩ := hmap.run_update (P := P) ht hk k val
  refine wpList_plain hgd fun K hK => ?_
  unfold Oper.wp
  simp [execOp, ho, hm, hx, hv, hrun, Result.andThen]
  exact hK _ _ (h w' h1 h2 h3)

section walk
variable {P : Program} {w : World} {ops : Array Oper} {rest : List Oper} {o : Oper} {a : Act} {Q : Exit → Act → World → Prop} {kt et : TypeId} {b r : Nat} {l : AL} {done : List Int}
/-- range m -/
theorem wpList_rangeM (hgd : o.guard = none) (m : Operand) (t : TypeId) (ho : o.op = .range t m) (ht : P.underlying t = some (.map kt et)) (hm : a.eval m = .map (some b)) (hmap : MapAt w b l)
    (h : ∀ w', IterAt w' b w.heap.size l [] → Chg (fun _ => False) w w' → w'.heap.size = w.heap.size + 1 → wpList P ops Q rest (a.put o.dst (.pointer (some ⟨w.heap.size, 0, none⟩))) w') : wpList P ops Q (o :: rest) a w := by
  obtain ⟨w', hrun, h1, h2, h3⟩ := hmap.run_range (P := P) ht
  refine wpList_plain hgd fun K hK => ?_
  unfold Oper.wp
  simp [execOp, ho, hm, hrun, Result.andThen]
  exact hK _ _ (h w' h1 h2 h3)
/-- the step of a range -/
theorem wpList_nextM (hgd : o.guard = none) (it : Operand) (ho : o.op = .next it false) (hit : a.eval it = .pointer (some ⟨r, 0, none⟩)) (hi : IterAt w b r l done)
    (hDone : (∀ k, k ∈ l.keys ↔ k ∈ done) → wpList P ops Q rest (a.put o.dst (.tuple #[.bool false])) w)
    (hMore : ∀ k v w', l.get k = some v → k ∉ done → IterAt w' b r l (done ++ [k]) → Chg (fun i => i = r) w w' → w'.heap.size = w.heap.size → (Instr.entry (.pointer (some ⟨r, 0, none⟩))).run P w' = .ok (.tuple #[.int .i64 k, v]) w' →
      wpList P ops Q rest (a.put o.dst (.tuple #[.bool true, .int .i64 k, v])) w') : wpList P ops Q (o :: rest) a w := by
  refine wpList_plain hgd fun K hK => ?_
  unfold Oper.wp
  rcases hi.run_next (P := P) o.type with ⟨h1, hrun⟩ | ⟨k, v, w', hrun, h1, h2, h3, h4, h5, h6⟩
  · simp [execOp, ho, hit, hrun, Result.andThen]
    exact hK _ _ (hDone h1)
  · simp [execOp, ho, hit, hrun, Result.andThen]
    exact hK _ _ (hMore k v w' h1 h2 h3 h4 h5 h6)
/-- len m -/
theorem wpList_lenM (hgd : o.guard = none) (m : Operand) (t : TypeId) (ho : o.op = .call { callee := .builtin .len, args := #[m], argTypes := #[t] }) (ht : P.underlying t = some (.map kt et)) (hm : a.eval m = .map (some b)) (hmap : MapAt w b l)
    (h : wpList P ops Q rest (a.put o.dst (.int .i64 l.length)) w) : wpList P ops Q (o :: rest) a w := by
  refine wpList_plain hgd fun K hK => ?_
  unfold Oper.wp
  simp [execOp, ho, resolve, invoke, builtin, hm, hmap.run_len ht o.type, Result.andThen]
  exact hK _ _ h
/-- m[k] -/
theorem wpList_lookM (hgd : o.guard = none) (m x : Operand) (t : TypeId) (ho : o.op = .lookup t m x false) (ht : P.underlying t = some (.map kt et)) (hk : P.underlying kt = some (.int .i64)) {z : Value} (hz : (zeroValue et).run P w = .ok z w)
    (hm : a.eval m = .map (some b)) (hmap : MapAt w b l) {k : Int} (hx : a.eval x = .int .i64 k) (u : Value) (hu : (l.get k).getD z = u) (h : wpList P ops Q rest (a.put o.dst u) w) : wpList P ops Q (o :: rest) a w := by
  subst hu
  refine wpList_plain hgd fun K hK => ?_
  unfold Oper.wp
  simp [execOp, ho, hm, hx, hmap.run_lookup ht hk hz k, Result.andThen]
  exact hK _ _ h
/-- delete(m, k) -/
theorem wpList_delM (hgd : o.guard = none) (m x : Operand) (t : TypeId) (ho : o.op = .call { callee := .builtin .delete, args := #[m, x], argTypes := #[t, kt] }) (ht : P.underlying t = some (.map kt et)) (hk : P.underlying kt = some (.int .i64)) (hm : a.eval m = .map (some b)) (hmap : MapAt w b l) {k : Int} (hx : a.eval x = .int .i64 k)
    (h : ∀ w', MapAt w' b (l.del k) → Chg (fun i => i = b) w w' → w'.heap.size = w.heap.size → wpList P ops Q rest (a.put o.dst (.tuple #[])) w') : wpList P ops Q (o :: rest) a w := by
  obtain ⟨w', hrun, h1, h2, h3⟩ := hmap.run_delete (P := P) ht hk k o.type
  refine wpList_plain hgd fun K hK => ?_
  unfold Oper.wp
  simp [execOp, ho, resolve, invoke, builtin, hm, hx, hrun, Result.andThen]
  exact hK _ _ (h w' h1 h2 h3)
end walk

end Go.Proofs.Ytochkamjfmdmoaa
