/- A map of sets of numbers (map[int]map[int]bool), as a function from numbers to lists. No program in sight. -/
import Derived.Test.YtochkamjfmdmoaaW6
namespace Go.Proofs.Ytochkamjfmdmoaa
open Go.RowKit

/-- block mw is a map whose entry at n is a map, from block bb on, that holds true at the numbers W n; no two are one block -/
structure WantsAt (w : World) (bb mw : Nat) (lw : AL) (W : Int → List Int) : Prop where
  map : MapAt w mw lw
  inner : ∀ n v, lw.get n = some v → ∃ b li, v = .map (some b) ∧ bb ≤ b ∧ MapAt w b li ∧ li.keys = W n ∧ ∀ m ∈ W n, li.get m = some (.bool true)
  inj : ∀ n n' b, lw.get n = some (.map (some b)) → lw.get n' = some (.map (some b)) → n = n'
  low : mw < bb

section
variable {w w' : World} {bb mw : Nat} {lw : AL} {W : Int → List Int}

theorem WantsAt.nil (h : MapAt w mw []) (hb : mw < bb) (W : Int → List Int) : WantsAt w bb mw [] W := ⟨h, by simp [AL.get_nil], by simp [AL.get_nil], hb⟩

/-- what turns hits neither the map nor those in it -/
theorem WantsAt.chg (h : WantsAt w bb mw lw W) {S : Nat → Prop} (c : Chg S w w') (h1 : ¬ S mw) (h2 : ∀ b l, bb ≤ b → MapAt w b l → ¬ S b) : WantsAt w' bb mw lw W := by
  refine ⟨h.map.chg c h1, fun n v hn => ?_, h.inj, h.low⟩
  obtain ⟨b, li, e, hb, hm, hk, ht⟩ := h.inner n v hn
  exact ⟨b, li, e, hb, hm.chg c (h2 b li hb hm), hk, ht⟩

theorem WantsAt.at (h : WantsAt w bb mw lw W) {n : Int} (hn : n ∈ lw.keys) : ∃ b li, lw.get n = some (.map (some b)) ∧ bb ≤ b ∧ MapAt w b li ∧ li.keys = W n ∧ ∀ m ∈ W n, li.get m = some (.bool true) := by
  obtain ⟨v, hv⟩ := AL.mem_keys.1 hn
  obtain ⟨b, li, e, r⟩ := h.inner n v hv
  exact ⟨b, li, by rw [hv, e], r⟩

/-- wants[n] = a new empty map -/
theorem WantsAt.putNew (h : WantsAt w bb mw lw W) {n : Int} {b : Nat} {w1 : World} (c : Chg (fun _ => False) w w1) (hb : w.heap.size ≤ b) (hbb : bb ≤ b) (hm : MapAt w1 b []) (hm2 : MapAt w' mw (lw.put n (.map (some b)))) (c2 : Chg (fun i => i = mw) w1 w') :
    WantsAt w' bb mw (lw.put n (.map (some b))) (fun z => if z = n then [] else W z) := by
  have hne : ∀ z b' li, bb ≤ b' → lw.get z = some (.map (some b')) → MapAt w b' li → b' ≠ b := fun z b' li _ _ hm' e => by have := hm'.lt; omega
  refine ⟨hm2, fun z v hz => ?_, fun z z' b' hz hz' => ?_, h.low⟩
  · rw [AL.get_put] at hz
    by_cases hzn : n = z
    · subst hzn
      rw [if_pos rfl] at hz
      cases hz
      refine ⟨b, [], rfl, hbb, hm.chg c2 (by have := h.low; omega), by simp [AL.keys], by simp⟩
    · rw [if_neg hzn] at hz
      obtain ⟨b', li, e, hb', hm', hk, ht⟩ := h.inner z v hz
      exact ⟨b', li, e, hb', (hm'.chg c id).chg c2 (by have := h.low; omega), by rw [if_neg (Ne.symm hzn)]; exact hk, by rw [if_neg (Ne.symm hzn)]; exact ht⟩
  · rw [AL.get_put] at hz hz'
    by_cases h1 : n = z
    · by_cases h2 : n = z'
      · rw [← h1, ← h2]
      · rw [if_pos h1] at hz
        rw [if_neg h2] at hz'
        cases hz
        obtain ⟨b', li, e, hb', hm', _⟩ := h.inner z' _ hz'
        cases e
        exact absurd rfl (hne z' b li hb' hz' hm')
    · by_cases h2 : n = z'
      · rw [if_neg h1] at hz
        rw [if_pos h2] at hz'
        cases hz'
        obtain ⟨b', li, e, hb', hm', _⟩ := h.inner z _ hz
        cases e
        exact absurd rfl (hne z b li hb' hz hm')
      · rw [if_neg h1] at hz
        rw [if_neg h2] at hz'
        exact h.inj z z' b' hz hz'

/-- the entry at n is another set now -/
theorem WantsAt.turn (h : WantsAt w bb mw lw W) {n : Int} {b : Nat} {li : AL} (hn : lw.get n = some (.map (some b))) (hb : bb ≤ b) (hm : MapAt w' b li) (c : Chg (fun i => i = b) w w') (ht : ∀ m ∈ li.keys, li.get m = some (.bool true)) :
    WantsAt w' bb mw lw (fun z => if z = n then li.keys else W z) := by
  refine ⟨h.map.chg c (by have := h.low; omega), fun z v hz => ?_, h.inj, h.low⟩
  by_cases hzn : z = n
  · subst hzn
    rw [hn] at hz
    cases hz
    exact ⟨b, li, rfl, hb, hm, by simp, by simpa using ht⟩
  · obtain ⟨b', li', e, hb', hm', hk, ht'⟩ := h.inner z v hz
    have hne : b' ≠ b := fun e' => hzn (h.inj z n b (by rw [hz, e, e']) hn)
    exact ⟨b', li', e, hb', hm'.chg c hne, by rw [if_neg hzn]; exact hk, by rw [if_neg hzn]; exact ht'⟩
end

/-- each once, in the order of the first -/
def dd (q : List Int) : List Int := q.foldl (fun acc m => if m ∈ acc then acc else acc ++ [m]) []
theorem dd_snoc (q : List Int) (m : Int) : dd (q ++ [m]) = if m ∈ dd q then dd q else dd q ++ [m] := by
  unfold dd
  rw [List.foldl_append]
  rfl
theorem mem_dd {q : List Int} {x : Int} : x ∈ dd q ↔ x ∈ q := by
  suffices h : ∀ (q : List Int) (n : Nat), q.length = n → (x ∈ dd q ↔ x ∈ q) from h q _ rfl
  intro q n
  induction n generalizing q with
  | zero => intro h; rw [List.eq_nil_of_length_eq_zero h]; simp [dd]
  | succ n ih =>
    intro h
    have hne : q ≠ [] := by intro e; rw [e] at h; simp at h
    have e := List.dropLast_concat_getLast hne
    rw [← e, dd_snoc]
    have ih' := ih q.dropLast (by simp [h])
    split
    · rename_i hm
      have hm' := hm
      rw [ih']
      constructor
      · intro h1; simp [h1]
      · intro h1
        rcases List.mem_append.1 h1 with h1 | h1
        · exact h1
        · simp at h1; subst h1
          have := ih (q.dropLast) (by simp [h])
          exact ih'.1 hm'
    · simp [ih']
theorem nodup_dd (q : List Int) : (dd q).Nodup := by
  suffices h : ∀ (q : List Int) (n : Nat), q.length = n → (dd q).Nodup from h q _ rfl
  intro q n
  induction n generalizing q with
  | zero => intro h; rw [List.eq_nil_of_length_eq_zero h]; simp [dd]
  | succ n ih =>
    intro h
    have hne : q ≠ [] := by intro e; rw [e] at h; simp at h
    have e := List.dropLast_concat_getLast hne
    rw [← e, dd_snoc]
    have ih' := ih q.dropLast (by simp [h])
    split
    · exact ih'
    · rename_i hm
      exact List.nodup_append.2 ⟨ih', by simp, by simp; intro a ha e'; exact hm (e' ▸ ha)⟩

theorem AL.keys_del (l : AL) (k : Int) : (l.del k).keys = l.keys.filter (fun x => !(x == k)) := by
  unfold AL.del AL.keys
  rw [List.filter_map]
  rfl
theorem AL.get_del (l : AL) (k j : Int) (h : j ≠ k) : (l.del k).get j = l.get j := by
  unfold AL.del AL.get
  congr 1
  induction l with
  | nil => rfl
  | cons p r ih =>
    rw [List.filter_cons]
    by_cases hp : p.1 = k
    · rw [if_neg (by simp [hp]), List.find?_cons]
      have : (p.1 == j) = false := by rw [hp]; exact beq_eq_false_iff_ne.2 (Ne.symm h)
      rw [this]
      exact ih
    · rw [if_pos (by simp [hp]), List.find?_cons, List.find?_cons]
      split
      · rfl
      · exact ih

/-- a row that lies in blocks from lo up to hi -/
def RowIn (w : World) (lo hi : Nat) (v : Value) (l : List Int) : Prop := w.ownsRow lo 3 1 v l.length (ints l) ∧ ∀ g, v.ownBlock = some g → g < hi
theorem RowIn.chg {w w' : World} {lo hi : Nat} {v : Value} {l : List Int} {S : Nat → Prop} (h : RowIn w lo hi v l) (c : Chg S w w') (hS : ∀ g, lo ≤ g → g < hi → ¬ S g) : RowIn w' lo hi v l :=
  ⟨ownsRow_chg h.1 c (fun g hg => hS g (h.1.lt g hg).1 (h.2 g hg)), h.2⟩
theorem RowIn.new {w w' : World} {lo hi : Nat} {v : Value} {l : List Int} (h : RowIn w lo hi v l) (c : Chg (fun _ => False) w w') : RowIn w' lo hi v l := h.chg c (fun _ _ _ => id)

theorem GroupsAt.chgMap {w w' : World} {base r b : Nat} {l li : AL} {f : Int → List Int} (h : GroupsAt w base r l f) (hm : MapAt w b li) (hb : r ≠ b) (c : Chg (fun i => i = b) w w') : GroupsAt w' base r l f :=
  ⟨h.map.chg c hb, fun k v hk => ownsRow_chg (h.rows k v hk) c (fun g hg e => owned_ne_map (h.rows k v hk) hm (by rw [hg, e])), h.apart, h.rest⟩

/-- the memory of the second half of Order: the rows of outs, the sets, the rows of the way back -/
structure OMem (w : World) (A X mo : Nat) (lo : AL) (s : Int → List Int) (lw lb : AL) (W f : Int → List Int) : Prop where
  rows : ∀ k, RowIn w (A + 2) X ((lo.get k).getD (.slice none 0 0)) (s k)
  wants : WantsAt w (X + 1) A lw W
  back : GroupsAt w (X + 1) (A + 1) lb f
  size : X < w.heap.size
  mo1 : A + 2 ≤ mo
  mo2 : mo < X

section omem
variable {w w' : World} {A X mo : Nat} {lo lw lb : AL} {s W f : Int → List Int}
theorem OMem.new (h : OMem w A X mo lo s lw lb W f) (c : Chg (fun _ => False) w w') : OMem w' A X mo lo s lw lb W f :=
  ⟨fun k => (h.rows k).new c, h.wants.chg c id (fun _ _ _ _ => id), h.back.chg c id (fun _ _ _ => id), Nat.lt_of_lt_of_le h.size c.size, h.mo1, h.mo2⟩
/-- the range's own block -/
theorem OMem.iter (h : OMem w A X mo lo s lw lb W f) (c : Chg (fun i => i = X) w w') : OMem w' A X mo lo s lw lb W f := by
  have := h.mo1; have := h.mo2
  exact ⟨fun k => (h.rows k).chg c (by omega), h.wants.chg c (by omega) (fun b _ hb _ => by omega), h.back.chg c (by omega) (fun g hg _ => by omega), Nat.lt_of_lt_of_le h.size c.size, h.mo1, h.mo2⟩
/-- a block of the heap's (cells of another kind, or a row of another base) -/
theorem OMem.off (h : OMem w A X mo lo s lw lb W f) {S : Nat → Prop} (c : Chg S w w') (hS : ∀ i, S i → X < i) (h1 : ∀ b l, MapAt w b l → ¬ S b) (h2 : ∀ k v g, lb.get k = some v → v.ownBlock = some g → ¬ S g) : OMem w' A X mo lo s lw lb W f := by
  have e1 := h.mo1; have e2 := h.mo2
  exact ⟨fun k => (h.rows k).chg c (fun g _ hg hh => by have := hS g hh; omega), h.wants.chg c (fun hh => by have := hS _ hh; omega) (fun b l _ hb => h1 b l hb),
    ⟨h.back.map.chg c (fun hh => by have := hS _ hh; omega), fun k v hk => ownsRow_chg (h.back.rows k v hk) c (fun g hg => h2 k v g hk hg), h.back.apart, h.back.rest⟩, Nat.lt_of_lt_of_le h.size c.size, h.mo1, h.mo2⟩
/-- wants[n] = a new map -/
theorem OMem.putNew (h : OMem w A X mo lo s lw lb W f) {n : Int} {w' : World} (hm : MapAt w' A (lw.put n (.map (some w.heap.size)))) (c : Chg (fun i => i = A) (w.alloc (Obj.map #[] 0)) w') :
    OMem w' A X mo lo s (lw.put n (.map (some w.heap.size))) lb (fun z => if z = n then [] else W z) f := by
  have e1 := h.mo1; have e2 := h.mo2; have e3 := h.size
  refine ⟨fun k => ((h.rows k).new (Chg.alloc _ _ _)).chg c (by omega), h.wants.putNew (Chg.alloc _ _ _) (Nat.le_refl _) (by omega) (MapAt.made w) hm c, (h.back.chg (Chg.alloc (fun _ => False) _ _) id (fun _ _ _ => id)).chg c (by omega) (fun g hg _ => by omega), ?_, h.mo1, h.mo2⟩
  have := (Chg.alloc (fun _ => False) w (Obj.map #[] 0)).size
  have := c.size
  omega
/-- the set at n is another -/
theorem OMem.turn (h : OMem w A X mo lo s lw lb W f) {n : Int} {b : Nat} {l0 li : AL} (hn : lw.get n = some (.map (some b))) (hm0 : MapAt w b l0) (hb : X + 1 ≤ b) (hm : MapAt w' b li) (c : Chg (fun i => i = b) w w') (ht : ∀ m ∈ li.keys, li.get m = some (.bool true)) :
    OMem w' A X mo lo s lw lb (fun z => if z = n then li.keys else W z) f := by
  have e1 := h.mo1; have e2 := h.mo2; have e3 := h.size
  exact ⟨fun k => (h.rows k).chg c (by omega), h.wants.turn hn hb hm c ht, h.back.chgMap hm0 (by omega) c, Nat.lt_of_lt_of_le h.size c.size, h.mo1, h.mo2⟩
/-- back[m] = append(back[m], x) -/
theorem OMem.put (h : OMem w A X mo lo s lw lb W f) {m x : Int} {v' : Value} {w1 w2 : World} (c : Chg (fun k => X + 1 ≤ k ∧ ((lb.get m).getD (.slice none 0 0)).ownBlock = some k) w w1)
    (hown : w1.ownsRow (X + 1) 3 1 v' ((f m).length + 1) (ints (f m) ++ [.int .i64 x])) (hblk : v'.ownBlock = ((lb.get m).getD (.slice none 0 0)).ownBlock ∨ v'.ownBlock = some (w.heap.size + 1))
    (hm : MapAt w2 (A + 1) (lb.put m v')) (c2 : Chg (fun i => i = A + 1) w1 w2) : OMem w2 A X mo lo s lw (lb.put m v') W (fun k => if k = m then f m ++ [x] else f k) := by
  have e1 := h.mo1; have e2 := h.mo2; have e3 := h.size
  refine ⟨fun k => ((h.rows k).chg c (by omega)).chg c2 (by omega), (h.wants.chg c (fun hh => by have := h.wants.low; omega) (fun b l _ hb hh => owned_ne_map (h.back.row m) hb hh.2)).chg c2 (by omega) (fun b _ hb _ => by omega),
    h.back.put c hown (hblk.imp id (fun e => ⟨_, e, by omega⟩)) hm c2, ?_, h.mo1, h.mo2⟩
  have := c.size; have := c2.size
  omega
end omem

/-- the keys that a range has met: each once, each a key -/
theorem IterAt.sub {w : World} {b r : Nat} {l : AL} {done : List Int} (h : IterAt w b r l done) : done.Nodup ∧ (∀ k ∈ done, k ∈ l.keys) ∧ done.length ≤ l.length := by
  obtain ⟨es, clock, since, c0, seen, _, _, _, _, _, _, _, _, hk, hn⟩ := h
  refine ⟨hn, hk, ?_⟩
  have := nodup_length_le hn (m := l.keys) hk
  simpa [AL.keys] using this

/-- append of one value's cells that were just laid in a new block: the row grows by them; where it lies then -/
theorem wpList_app2 {P : Program} {w w0 : World} {ops : Array Oper} {rest : List Oper} {o : Oper} {a : Act} {Q : Exit → Act → World → Prop} (hgd : o.guard = none) (s x : Operand) (t : TypeId)
    (ho : o.op = .call { callee := .builtin .append, args := #[s, x], argTypes := #[t, t] })
    {e : TypeId} {z : Value} {size bytes : Nat} (ht : P.underlying t = some (.slice e)) (hi : (P.info? e).map (fun i => (i.zero, i.size, i.bytes)) = some (some z, size, bytes)) (hzs : z.cells.size = size) (hsz : 0 < size) (hby : bytes ≤ 1024)
    {base : Nat} {v : Value} {n : Nat} {xs : List Value} (cells : List Value) (hw : w = w0.alloc (.cells cells.toArray e)) (hs : a.eval s = v) (hown : w0.ownsRow base e size v n xs)
    (hx : a.eval x = .slice (some ⟨w0.heap.size, 0, none⟩) 1 1) (hl : cells.length = size) (h1 : ∀ u ∈ cells, u.oneCell' = true) (hn : n ≤ 100000) (hbase : base ≤ w0.heap.size)
    (h : ∀ v' w', w'.ownsRow base e size v' (n + 1) (xs ++ cells) → Chg (fun k => base ≤ k ∧ v.ownBlock = some k) w0 w' → (v'.ownBlock = v.ownBlock ∨ v'.ownBlock = some (w0.heap.size + 1)) → wpList P ops Q rest (a.put o.dst v') w') : wpList P ops Q (o :: rest) a w := by
  obtain ⟨v', w', hrun, h2, h3, h4⟩ := run_app1 (P := P) (ty := o.type) ht hi hzs hsz hby cells hown hl h1 hn hbase
  subst hw
  refine wpList_plain hgd fun K hK => ?_
  unfold Oper.wp
  simp [execOp, ho, resolve, invoke, builtin, hs, hx, hrun, Result.andThen]
  exact hK _ _ (h v' w' h2 h3 h4)

/-- back: at m, those that were met and lead to m -/
def FS (ps : List (Int × Int)) (done : List Int) (f : Int → List Int) : Prop := ∀ m, (f m).Nodup ∧ ∀ z, z ∈ f m ↔ z ∈ done ∧ (z, m) ∈ ps
/-- .. while n's are being gone through -/
def FS2 (ps : List (Int × Int)) (done : List Int) (n : Int) (tk : List Int) (f : Int → List Int) : Prop := ∀ m, (f m).Nodup ∧ ∀ z, z ∈ f m ↔ (z ∈ done ∧ (z, m) ∈ ps) ∨ (z = n ∧ m ∈ tk)
theorem FS.start {ps : List (Int × Int)} {done : List Int} {f : Int → List Int} (h : FS ps done f) (n : Int) : FS2 ps done n [] f := fun m => ⟨(h m).1, fun z => by rw [(h m).2]; simp⟩
theorem FS2.keep {ps : List (Int × Int)} {done tk : List Int} {n m : Int} {f : Int → List Int} (h : FS2 ps done n tk f) (hm : m ∈ tk) : FS2 ps done n (tk ++ [m]) f := fun k => ⟨(h k).1, fun z => by
  rw [(h k).2]
  constructor
  · rintro (e | ⟨e, e2⟩)
    · exact .inl e
    · exact .inr ⟨e, List.mem_append_left _ e2⟩
  · rintro (e | ⟨e, e2⟩)
    · exact .inl e
    · rcases List.mem_append.1 e2 with e2 | e2
      · exact .inr ⟨e, e2⟩
      · simp at e2; subst e2; exact .inr ⟨e, hm⟩⟩
theorem FS2.snoc {ps : List (Int × Int)} {done tk : List Int} {n m : Int} {f : Int → List Int} (h : FS2 ps done n tk f) (hm : m ∉ tk) (hn : n ∉ done) : FS2 ps done n (tk ++ [m]) (fun k => if k = m then f m ++ [n] else f k) := fun k => by
  by_cases hk : k = m
  · subst hk
    simp only [if_true]
    refine ⟨List.nodup_append.2 ⟨(h k).1, by simp, ?_⟩, fun z => ?_⟩
    · intro a ha b hb e
      simp at hb
      subst hb; subst e
      rcases ((h k).2 _).1 ha with e | e
      · exact hn e.1
      · exact hm e.2
    · rw [List.mem_append, (h k).2]
      constructor
      · rintro ((e | e) | e)
        · exact .inl e
        · exact .inr ⟨e.1, List.mem_append_left _ e.2⟩
        · exact .inr ⟨by simpa using e, by simp⟩
      · rintro (e | e)
        · exact .inl (.inl e)
        · exact .inr (by simp [e.1])
  · simp only [if_neg hk]
    refine ⟨(h k).1, fun z => ?_⟩
    rw [(h k).2]
    simp [hk]
theorem FS2.fin {ps : List (Int × Int)} {done : List Int} {n : Int} {f : Int → List Int} (h : FS2 ps done n (succs ps n) f) : FS ps (done ++ [n]) f := fun m => ⟨(h m).1, fun z => by
  rw [(h m).2, mem_succs, List.mem_append, List.mem_singleton]
  constructor
  · rintro (e | ⟨rfl, e⟩)
    · exact ⟨.inl e.1, e.2⟩
    · exact ⟨.inr rfl, e⟩
  · rintro ⟨e | rfl, e2⟩
    · exact .inl ⟨e, e2⟩
    · exact .inr ⟨rfl, e2⟩⟩
theorem FS.len {ps : List (Int × Int)} {done : List Int} {f : Int → List Int} (h : FS ps done f) (m : Int) : (f m).length ≤ 2 * ps.length := by
  refine Nat.le_trans (nodup_length_le (h m).1 (m := nums ps) fun z hz => mem_nums.2 ?_) (length_nums ps)
  exact ⟨_, (((h m).2 z).1 hz).2, .inl rfl⟩
theorem FS2.len {ps : List (Int × Int)} {done tk : List Int} {n : Int} {f : Int → List Int} (h : FS2 ps done n tk f) (htk : ∀ m ∈ tk, (n, m) ∈ ps) (m : Int) : (f m).length ≤ 2 * ps.length := by
  refine Nat.le_trans (nodup_length_le (h m).1 (m := nums ps) fun z hz => mem_nums.2 ?_) (length_nums ps)
  rcases ((h m).2 z).1 hz with e | ⟨rfl, e⟩
  · exact ⟨_, e.2, .inl rfl⟩
  · exact ⟨_, htk m e, .inl rfl⟩

end Go.Proofs.Ytochkamjfmdmoaa
