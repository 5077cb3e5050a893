/- Order's bookkeeping: the numbers that may come next, and the variable with the heap beside the row of the answer. -/
import Derived.Test.YtochkamjfmdmoaaWD
import Derived.Test.YtochkamjfmdmoaaWs
namespace Go.Proofs.Ytochkamjfmdmoaa
open Go.RowKit

section plain
variable {ps : List (Int × Int)} {out lh lh' tk : List Int} {W W' : Int → List Int} {x0 m : Int}

/-- lh: those that could come next; W x: whom x still waits for -/
structure QInv (ps : List (Int × Int)) (out lh : List Int) (W : Int → List Int) : Prop where
  nd : lh.Nodup
  mem : ∀ x, x ∈ lh ↔ x ∈ nums ps ∧ x ∉ out ∧ readyB ps out x = true
  want : ∀ x ∈ nums ps, ∀ y, y ∈ W x ↔ (x, y) ∈ ps ∧ y ∉ out

/-- .. while x0's are being gone through -/
structure QIn (ps : List (Int × Int)) (out : List Int) (x0 : Int) (tk lh : List Int) (W : Int → List Int) : Prop where
  nd : lh.Nodup
  mem : ∀ x, x ∈ lh ↔ x ∈ nums ps ∧ x ∉ out ∧ x ≠ x0 ∧ (readyB ps out x = true ∨ (x ∈ tk ∧ readyB ps (out ++ [x0]) x = true))
  want : ∀ x ∈ nums ps, ∀ y, y ∈ W x ↔ (x, y) ∈ ps ∧ y ∉ out ∧ ¬ (y = x0 ∧ x ∈ tk)

theorem QInv.pick (h : QInv ps out lh W) (hf : HeapFrom lh lh.length 0) (h0 : 0 < lh.length) : pick ps out = some (el lh 0) := by
  have hm : el lh 0 ∈ lh := by rw [el_eq h0]; exact List.getElem_mem _
  obtain ⟨h1, h2, h3⟩ := (h.mem _).1 hm
  refine pick_eq h1 h2 h3 fun y hy1 hy2 hy3 => ?_
  obtain ⟨i, hi, e⟩ := List.getElem_of_mem ((h.mem y).2 ⟨hy1, hy2, hy3⟩)
  have := hf.least i hi
  rw [el_eq hi, e] at this
  exact this

theorem QInv.pop (h : QInv ps out lh W) (hp : (lh' ++ [x0]).Perm lh) : QIn ps out x0 [] lh' W := by
  have hnd := hp.nodup_iff.2 h.nd
  have hx : x0 ∉ lh' := fun e => (List.nodup_append.1 hnd).2.2 x0 e x0 (by simp) rfl
  refine ⟨(List.nodup_append.1 hnd).1, fun x => ?_, fun x hx y => by rw [h.want x hx y]; simp⟩
  have e : x ∈ lh' ↔ x ∈ lh ∧ x ≠ x0 := by
    rw [← hp.mem_iff, List.mem_append, List.mem_singleton]
    constructor
    · intro hh; exact ⟨.inl hh, fun e => hx (e ▸ hh)⟩
    · rintro ⟨hh | hh, hn⟩
      · exact hh
      · exact absurd hh hn
  rw [e, h.mem]
  constructor
  · rintro ⟨⟨a, b, c⟩, d⟩; exact ⟨a, b, d, .inl c⟩
  · rintro ⟨a, b, d, c | ⟨c, _⟩⟩
    · exact ⟨⟨a, b, c⟩, d⟩
    · simp at c

/-- those that are picked already wait for nobody outside -/
theorem GInv.closed (h : GInv ps out) {a b : Int} (ha : a ∈ out) (hp : (a, b) ∈ ps) : b ∈ out := by
  obtain ⟨i, hi, e⟩ := List.getElem_of_mem ha
  have hi' : out[i]? = some a := by rw [List.getElem?_eq_getElem hi, e]
  have := (pick_some (h.steps i a hi')).2.2
  rw [readyB_iff] at this
  exact List.mem_of_mem_take (this b hp)

theorem QIn.del (h : QIn ps out x0 tk lh W) (hg : GInv ps out) (hx0 : x0 ∉ out) (hac : ∀ x, ¬ Tr ps x x) (hp : (m, x0) ∈ ps) (hmt : m ∉ tk) (hm : ∀ y, y ∈ W' m ↔ y ∈ W m ∧ y ≠ x0) (ho : ∀ z, z ≠ m → W' z = W z) :
    (W' m ≠ [] → QIn ps out x0 (tk ++ [m]) lh W') ∧ (W' m = [] → lh'.Perm (lh ++ [m]) → QIn ps out x0 (tk ++ [m]) lh' W') := by
  have hmn : m ∈ nums ps := mem_nums.2 ⟨_, hp, .inl rfl⟩
  have hmo : m ∉ out := fun e => hx0 (hg.closed e hp)
  have hmx : m ≠ x0 := fun e => hac m (.one (by rw [← e] at hp; exact hp))
  have hnr : ¬ readyB ps out m = true := fun e => hx0 (readyB_iff.1 e _ hp)
  have hw : ∀ x ∈ nums ps, ∀ y, y ∈ W' x ↔ (x, y) ∈ ps ∧ y ∉ out ∧ ¬ (y = x0 ∧ x ∈ tk ++ [m]) := by
    intro x hx y
    by_cases hxm : x = m
    · subst hxm
      rw [hm, h.want x hx]
      constructor
      · rintro ⟨⟨a, b, c⟩, d⟩; exact ⟨a, b, fun e => d e.1⟩
      · rintro ⟨a, b, c⟩; exact ⟨⟨a, b, fun e => c ⟨e.1, List.mem_append_left _ e.2⟩⟩, fun e => c ⟨e, by simp⟩⟩
    · rw [ho x hxm, h.want x hx]
      simp [hxm]
  have hr : W' m = [] ↔ readyB ps (out ++ [x0]) m = true := by
    rw [readyB_iff, List.eq_nil_iff_forall_not_mem]
    constructor
    · intro hh y hy
      have := hh y
      rw [hw m hmn y] at this
      by_cases hyo : y ∈ out
      · exact List.mem_append_left _ hyo
      · refine List.mem_append_right _ ?_
        have : y = x0 := Classical.byContradiction fun e => this ⟨hy, hyo, fun e' => e e'.1⟩
        simp [this]
    · intro hh y hy
      obtain ⟨a, b, c⟩ := (hw m hmn y).1 hy
      rcases List.mem_append.1 (hh y a) with e | e
      · exact b e
      · exact c ⟨by simpa using e, by simp⟩
  refine ⟨fun hne => ⟨h.nd, fun x => ?_, hw⟩, fun he hpm => ⟨?_, fun x => ?_, hw⟩⟩
  · rw [h.mem]
    constructor
    · rintro ⟨a, b, c, d | ⟨d, e⟩⟩
      · exact ⟨a, b, c, .inl d⟩
      · exact ⟨a, b, c, .inr ⟨List.mem_append_left _ d, e⟩⟩
    · rintro ⟨a, b, c, d | ⟨d, e⟩⟩
      · exact ⟨a, b, c, .inl d⟩
      · rcases List.mem_append.1 d with d | d
        · exact ⟨a, b, c, .inr ⟨d, e⟩⟩
        · simp at d; subst d; exact absurd (hr.2 e) hne
  · refine hpm.nodup_iff.2 (List.nodup_append.2 ⟨h.nd, by simp, ?_⟩)
    intro a ha b hb e
    simp at hb; subst hb; subst e
    obtain ⟨_, _, _, d | ⟨d, _⟩⟩ := (h.mem _).1 ha
    · exact hnr d
    · exact hmt d
  · rw [hpm.mem_iff, List.mem_append, List.mem_singleton, h.mem]
    constructor
    · rintro (⟨a, b, c, d | ⟨d, e⟩⟩ | rfl)
      · exact ⟨a, b, c, .inl d⟩
      · exact ⟨a, b, c, .inr ⟨List.mem_append_left _ d, e⟩⟩
      · exact ⟨hmn, hmo, hmx, .inr ⟨by simp, hr.1 he⟩⟩
    · rintro ⟨a, b, c, d | ⟨d, e⟩⟩
      · exact .inl ⟨a, b, c, .inl d⟩
      · rcases List.mem_append.1 d with d | d
        · exact .inl ⟨a, b, c, .inr ⟨d, e⟩⟩
        · simp at d; exact .inr d

theorem QIn.fin (h : QIn ps out x0 tk lh W) (ht : ∀ z, z ∈ tk ↔ (z, x0) ∈ ps) : QInv ps (out ++ [x0]) lh W := by
  refine ⟨h.nd, fun x => ?_, fun x hx y => ?_⟩
  · rw [h.mem, List.mem_append, List.mem_singleton]
    constructor
    · rintro ⟨a, b, c, d⟩
      refine ⟨a, fun e => e.elim b c, ?_⟩
      rcases d with d | d
      · rw [readyB_iff] at d ⊢
        exact fun y hy => List.mem_append_left _ (d y hy)
      · exact d.2
    · rintro ⟨a, b, c⟩
      refine ⟨a, fun e => b (.inl e), fun e => b (.inr e), ?_⟩
      by_cases hx : (x, x0) ∈ ps
      · exact .inr ⟨(ht x).2 hx, c⟩
      · left
        rw [readyB_iff] at c ⊢
        intro y hy
        rcases List.mem_append.1 (c y hy) with e | e
        · exact e
        · simp at e; subst e; exact absurd hy hx
  · rw [h.want x hx, List.mem_append, List.mem_singleton]
    constructor
    · rintro ⟨a, b, c⟩
      refine ⟨a, fun e => ?_⟩
      rcases e with e | e
      · exact b e
      · subst e; exact c ⟨rfl, (ht x).2 a⟩
    · rintro ⟨a, b⟩
      exact ⟨a, fun e => b (.inl e), fun e => b (.inr e.1)⟩

/-- nobody can come next: all have come -/
theorem QInv.all (h : QInv ps out [] W) (hg : GInv ps out) (hac : ∀ x, ¬ Tr ps x x) : out.length = (nums ps).length := by
  refine Classical.byContradiction fun hne => ?_
  have hl := hg.len
  obtain ⟨x, hx⟩ := pick_exists hac (hg.missing (by omega))
  obtain ⟨h1, h2, h3⟩ := pick_some hx
  have := (h.mem x).2 ⟨h1, h2, h3⟩
  simp at this
end plain

/-- the variable F with the heap, and the answer's row; they lie apart, and behind block F+1 -/
structure HMem (w : World) (F : Nat) (sv vo : Value) (lh out : List Int) : Prop where
  heap : HeapAt w F sv lh
  svb : ∀ g, sv.ownBlock = some g → F + 1 < g
  row : w.ownsRow (F + 2) 3 1 vo out.length (ints out)
  ne : ∀ g, sv.ownBlock = some g → vo.ownBlock = some g → False
  size : F + 1 < w.heap.size

section hmem
variable {w w' : World} {F : Nat} {sv sv' vo : Value} {lh lh' out : List Int}
theorem HMem.off (h : HMem w F sv vo lh out) {S : Nat → Prop} (c : Chg S w w') (h1 : ¬ S F) (h2 : ∀ g, sv.ownBlock = some g → ¬ S g) (h3 : ∀ g, vo.ownBlock = some g → ¬ S g) : HMem w' F sv vo lh out :=
  ⟨⟨c.heap h.heap.cell h1, ownsRow_chg h.heap.row c h2⟩, h.svb, ownsRow_chg h.row c h3, h.ne, Nat.lt_of_lt_of_le h.size c.size⟩
theorem HMem.new (h : HMem w F sv vo lh out) (c : Chg (fun _ => False) w w') : HMem w' F sv vo lh out := h.off c id (fun _ _ => id) (fun _ _ => id)
theorem HMem.iter (h : HMem w F sv vo lh out) (c : Chg (fun i => i = F + 1) w w') : HMem w' F sv vo lh out :=
  h.off c (by omega) (fun g hg e => by have := h.svb g hg; omega) (fun g hg e => by have := (h.row.lt g hg).1; omega)
theorem HeapAt.notMap (h : HeapAt w F sv lh) {l : AL} (hm : MapAt w F l) : False := by
  obtain ⟨es, clock, hb, _⟩ := hm
  rw [h.cell] at hb
  cases hb
theorem HMem.map (h : HMem w F sv vo lh out) {b : Nat} {l : AL} (hm : MapAt w b l) (c : Chg (fun i => i = b) w w') : HMem w' F sv vo lh out :=
  h.off c (fun e => by subst e; exact h.heap.notMap hm) (fun g hg e => owned_ne_map h.heap.row hm (by rw [hg, e])) (fun g hg e => owned_ne_map h.row hm (by rw [hg, e]))
theorem HMem.step (h : HMem w F sv vo lh out) (hh : HeapAt w' F sv' lh') (c : HChg F w sv w' sv') : HMem w' F sv' vo lh' out := by
  refine ⟨hh, fun g hg => ?_, ownsRow_chg h.row c.chg (fun g hg e => ?_), fun g hg hv => ?_, Nat.lt_of_lt_of_le h.size c.chg.size⟩
  · rcases c.blk with e | ⟨g', e, hge⟩
    · exact h.svb g (by rw [← e]; exact hg)
    · rw [e] at hg; cases hg; have := h.size; omega
  · rcases e with e | e
    · have := (h.row.lt g hg).1; omega
    · exact h.ne g e hg
  · rcases c.blk with e | ⟨g', e, hge⟩
    · exact h.ne g (by rw [← e]; exact hg) hv
    · rw [e] at hg; cases hg; have := (h.row.lt _ hv).2; omega
theorem HMem.put (h : HMem w F sv vo lh out) {vo' : Value} {x : Int} (c : Chg (fun k => F + 2 ≤ k ∧ vo.ownBlock = some k) w w') (hown : w'.ownsRow (F + 2) 3 1 vo' (out.length + 1) (ints out ++ [.int .i64 x]))
    (hb : vo'.ownBlock = vo.ownBlock ∨ vo'.ownBlock = some (w.heap.size + 1)) : HMem w' F sv vo' lh (out ++ [x]) := by
  refine ⟨⟨c.heap h.heap.cell (by omega), ownsRow_chg h.heap.row c (fun g hg e => h.ne g hg e.2)⟩, h.svb, by rw [List.length_append, ints_append]; exact hown, fun g hg hv => ?_, Nat.lt_of_lt_of_le h.size c.size⟩
  rcases hb with e | e
  · exact h.ne g hg (by rw [← e]; exact hv)
  · rw [e] at hv; cases hv; have := (h.heap.row.lt _ hg).2; omega

/-- the heap's row grown by one, and the variable stored -/
theorem HMem.grow (h : HMem w F sv vo lh out) {x : Int} {w1 : World} (c : Chg (fun k => 0 ≤ k ∧ sv.ownBlock = some k) w w1) (hown : w1.ownsRow 0 3 1 sv' (lh.length + 1) (ints lh ++ [.int .i64 x]))
    (hb : sv'.ownBlock = sv.ownBlock ∨ sv'.ownBlock = some (w.heap.size + 1)) : HeapAt (w1.setCell ⟨F, 0, none⟩ sv') F sv' (lh ++ [x]) ∧ HChg F w sv (w1.setCell ⟨F, 0, none⟩ sv') sv' := by
  have hne : sv.ownBlock ≠ some F := h.heap.ne
  have hF : w1.heap[F]? = some (.cells #[sv] 43) := c.heap h.heap.cell (fun e => hne e.2)
  have hne' : sv'.ownBlock ≠ some F := by
    rcases hb with e | e
    · rw [e]; exact hne
    · rw [e]; intro e'; have := h.size; simp at e'; omega
  refine ⟨⟨heap_setCell_one hF, ?_⟩, ⟨?_, hb.imp id (fun e => ⟨_, e, by omega⟩)⟩⟩
  · rw [List.length_append, ints_append]
    exact ownsRow_chg hown (Chg.setCell w1 ⟨F, 0, none⟩ _) (fun g hg e => hne' (by rw [hg]; exact congrArg some e))
  · exact (c.mono (T := fun k => k = F ∨ sv.ownBlock = some k) (fun i _ e => .inr e.2)).trans' (Chg.setCell w1 ⟨F, 0, none⟩ _) (fun i _ e => .inl e)

/-- the sets beside a step of the heap -/
theorem OMem.heap {A X mo : Nat} {lo lw lb : AL} {s W f : Int → List Int} (h : OMem w A X mo lo s lw lb W f) (hm : HMem w F sv vo lh out) (hX : X < F) (hlb : ∀ k v g, lb.get k = some v → v.ownBlock = some g → g < F) (c : Chg (fun k => k = F ∨ sv.ownBlock = some k) w w') : OMem w' A X mo lo s lw lb W f := by
  refine h.off c (fun i e => ?_) (fun b l hb e => ?_) (fun k v g hk hg e => ?_)
  · rcases e with e | e
    · omega
    · have := hm.svb i e; omega
  · rcases e with e | e
    · subst e; exact hm.heap.notMap hb
    · exact owned_ne_map hm.heap.row hb e
  · have := hlb k v g hk hg
    rcases e with e | e
    · omega
    · have := hm.svb g e; omega
/-- .. and beside the answer's growth -/
theorem OMem.ans {A X mo : Nat} {lo lw lb : AL} {s W f : Int → List Int} (h : OMem w A X mo lo s lw lb W f) (hm : HMem w F sv vo lh out) (hX : X < F) (hlb : ∀ k v g, lb.get k = some v → v.ownBlock = some g → g < F) (c : Chg (fun k => F + 2 ≤ k ∧ vo.ownBlock = some k) w w') : OMem w' A X mo lo s lw lb W f := by
  refine h.off c (fun i e => ?_) (fun b l hb e => ?_) (fun k v g hk hg e => ?_)
  · omega
  · exact owned_ne_map hm.row hb e.2
  · have := hlb k v g hk hg; omega
/-- .. and beside the range's own block -/
theorem IterAt.notMap {b r : Nat} {l l' : AL} {done : List Int} (h : IterAt w b r l done) (hm : MapAt w r l') : False := by
  obtain ⟨es, clock, since, c0, seen, _, _, _, hr, _⟩ := h
  obtain ⟨es', clock', hb, _⟩ := hm
  rw [hr] at hb
  cases hb
theorem OMem.iter2 {A X mo : Nat} {lo lw lb : AL} {s W f : Int → List Int} {l : AL} {done : List Int} (h : OMem w A X mo lo s lw lb W f) (hi : IterAt w A (F + 1) l done) (hX : X < F) (hlb : ∀ k v g, lb.get k = some v → v.ownBlock = some g → g < F) (c : Chg (fun k => k = F + 1) w w') : OMem w' A X mo lo s lw lb W f := by
  refine h.off c (fun i e => by omega) (fun b l hb e => by subst e; exact hi.notMap hb) (fun k v g hk hg e => by have := hlb k v g hk hg; omega)
end hmem

end Go.Proofs.Ytochkamjfmdmoaa
