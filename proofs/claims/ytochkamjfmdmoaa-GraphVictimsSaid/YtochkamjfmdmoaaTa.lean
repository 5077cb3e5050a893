/- The walk that numbers as it goes and keeps a stack: its law in plain words. No program in sight. -/
import Derived.Test.YtochkamjfmdmoaaPl
namespace Go.Proofs.Ytochkamjfmdmoaa

/-- which one it was in the order of coming up, from 1; 0 for one that has not come up -/
def num (ord : List Int) (n : Int) : Nat := if n ∈ ord then ord.idxOf n + 1 else 0

theorem num_pos {ord : List Int} {n : Int} (h : n ∈ ord) : 0 < num ord n := by unfold num; rw [if_pos h]; omega
theorem num_zero {ord : List Int} {n : Int} (h : n ∉ ord) : num ord n = 0 := by unfold num; rw [if_neg h]
theorem num_le (ord : List Int) (n : Int) : num ord n ≤ ord.length := by
  unfold num
  split
  · rename_i h; have := List.idxOf_lt_length_iff.2 h; omega
  · omega
theorem num_prefix {a b : List Int} (h : a <+: b) {n : Int} (hn : n ∈ a) : num b n = num a n := by
  obtain ⟨t, rfl⟩ := h
  unfold num
  rw [if_pos hn, if_pos (List.mem_append_left _ hn), List.idxOf_append, if_pos hn]
theorem num_last {ord : List Int} {n : Int} (h : n ∉ ord) : num (ord ++ [n]) n = ord.length + 1 := by
  unfold num
  rw [if_pos (by simp), List.idxOf_append, if_neg h]
  simp
theorem num_new {a b : List Int} (h : a <+: b) {n : Int} (hn : n ∉ a) (hb : n ∈ b) : a.length < num b n := by
  obtain ⟨t, rfl⟩ := h
  unfold num
  rw [if_pos hb, List.idxOf_append, if_neg hn]
  omega
theorem num_inj {ord : List Int} {a b : Int} (ha : a ∈ ord) (hb : b ∈ ord) (h : num ord a = num ord b) : a = b := by
  unfold num at h
  rw [if_pos ha, if_pos hb] at h
  have h1 := List.idxOf_lt_length_iff.2 ha
  have h2 := List.idxOf_lt_length_iff.2 hb
  have e1 : ord[ord.idxOf a] = a := List.getElem_idxOf h1
  have e2 : ord[ord.idxOf b] = b := List.getElem_idxOf h2
  rw [← e1, ← e2]
  congr 1
  omega

structure TS where
  ord : List Int
  low : Int → Nat
  stack : List Int
  found : Int → Prop

structure TInv (ps : List (Int × Int)) (S : TS) : Prop where
  nd : S.ord.Nodup
  sub : ∀ x ∈ S.ord, IsNum ps x
  son : ∀ x ∈ S.stack, x ∈ S.ord
  srt : S.stack.Pairwise (fun a b => num S.ord a < num S.ord b)
  reach : S.stack.Pairwise (fun a b => Rt ps a b)
  closed : ∀ x ∈ S.ord, x ∉ S.stack → ∀ y, (x, y) ∈ ps → y ∈ S.ord ∧ y ∉ S.stack
  fsound : ∀ x, S.found x → Tr ps x x
  fpop : ∀ x ∈ S.ord, x ∉ S.stack → Tr ps x x → S.found x

theorem TInv.len {ps : List (Int × Int)} {S : TS} (h : TInv ps S) : S.ord.length ≤ (nums ps).length :=
  nodup_length_le h.nd (fun x hx => mem_nums.2 (h.sub x hx))
theorem TInv.snd {ps : List (Int × Int)} {S : TS} (h : TInv ps S) : S.stack.Nodup := h.srt.imp (fun h e => by subst e; omega)
theorem TInv.slen {ps : List (Int × Int)} {S : TS} (h : TInv ps S) : S.stack.length ≤ S.ord.length := nodup_length_le h.snd h.son

structure WPost (ps : List (Int × Int)) (S : TS) (n : Int) (S' : TS) : Prop where
  inv : TInv ps S'
  ext : S.ord <+: S'.ord
  nin : n ∈ S'.ord
  fmono : ∀ x, S.found x → S'.found x
  low : ∀ x ∈ S.ord, S'.low x = S.low x
  edges : ∀ x ∈ S'.ord, x ∉ S.ord → ∀ y, (x, y) ∈ ps → y ∈ S'.ord
  selfs : ∀ x ∈ S'.ord, x ∉ S.ord → (x, x) ∈ ps → S'.found x
  stk : (S'.stack = S.stack ∧ num S'.ord n ≤ S'.low n) ∨
    ∃ s, S'.stack = S.stack ++ s ∧ n ∈ s ∧ (∀ x ∈ s, x ∉ S.ord) ∧ S'.low n < num S'.ord n ∧ (∃ z ∈ S.stack, num S'.ord z = S'.low n ∧ Rt ps n z) ∧
      (∀ x ∈ s, ∃ z ∈ S.stack, Rt ps x z) ∧ ∀ x ∈ s, ∀ y ∈ S.stack, (x, y) ∈ ps → S'.low n ≤ num S'.ord y

structure LInv (ps : List (Int × Int)) (S : TS) (n : Int) (es : List Int) (s : List Int) (T : TS) : Prop where
  inv : TInv ps T
  ext : S.ord ++ [n] <+: T.ord
  fmono : ∀ x, S.found x → T.found x
  low : ∀ x ∈ S.ord, T.low x = S.low x
  edges : ∀ x ∈ T.ord, x ∉ S.ord → x ≠ n → ∀ y, (x, y) ∈ ps → y ∈ T.ord
  edgesn : ∀ y ∈ es, y ∈ T.ord
  selfs : ∀ x ∈ T.ord, x ∉ S.ord → x ≠ n → (x, x) ∈ ps → T.found x
  selfn : n ∈ es → T.found n
  stk : T.stack = S.stack ++ n :: s
  new : ∀ x ∈ s, x ∉ S.ord
  back : ∀ x ∈ s, ∃ z, (z ∈ S.stack ∨ z = n) ∧ Rt ps x z
  lown : T.low n ≤ num T.ord n ∧ ∃ z, (z ∈ S.stack ∨ z = n) ∧ num T.ord z = T.low n ∧ Rt ps n z
  bound : ∀ x ∈ s, ∀ y ∈ S.stack, (x, y) ∈ ps → T.low n ≤ num T.ord y
  boundn : ∀ y ∈ es, y ∈ S.stack → T.low n ≤ num T.ord y

/-- what the walk may be begun with -/
structure WPre (ps : List (Int × Int)) (S : TS) (n : Int) : Prop where
  inv : TInv ps S
  fresh : n ∉ S.ord
  isn : IsNum ps n
  reach : ∀ z ∈ S.stack, Rt ps z n

def upd (f : Int → Nat) (n : Int) (v : Nat) : Int → Nat := fun x => if x = n then v else f x

theorem LInv.start {ps : List (Int × Int)} {S : TS} {n : Int} (h : WPre ps S n) :
    LInv ps S n [] [] { ord := S.ord ++ [n], low := upd S.low n (S.ord.length + 1), stack := S.stack ++ [n], found := S.found } := by
  have hpre : S.ord <+: S.ord ++ [n] := List.prefix_append _ _
  have hnum : ∀ x ∈ S.ord, num (S.ord ++ [n]) x = num S.ord x := fun x hx => num_prefix hpre hx
  have hns : n ∉ S.stack := fun e => h.fresh (h.inv.son n e)
  have hnn : ∀ x ∈ S.ord, x ≠ n := fun x hx e => h.fresh (e ▸ hx)
  refine ⟨?_, List.prefix_refl _, fun _ h => h, ?_, ?_, by simp, ?_, by simp, rfl, by simp, by simp, ?_, by simp, by simp⟩
  · refine ⟨List.nodup_append.2 ⟨h.inv.nd, by simp, by simp; intro a ha e; exact h.fresh (e ▸ ha)⟩, ?_, ?_, ?_, ?_, ?_, h.inv.fsound, ?_⟩
    · intro x hx
      rcases List.mem_append.1 hx with hx | hx
      · exact h.inv.sub x hx
      · simp at hx; subst hx; exact h.isn
    · intro x hx
      rcases List.mem_append.1 hx with hx | hx
      · exact List.mem_append_left _ (h.inv.son x hx)
      · exact List.mem_append_right _ hx
    · refine List.pairwise_append.2 ⟨?_, by simp, ?_⟩
      · exact h.inv.srt.imp_of_mem (fun ha hb hab => by rw [hnum _ (h.inv.son _ ha), hnum _ (h.inv.son _ hb)]; exact hab)
      · intro a ha b hb
        simp at hb
        subst hb
        rw [hnum a (h.inv.son a ha), num_last h.fresh]
        have := num_le S.ord a
        omega
    · refine List.pairwise_append.2 ⟨h.inv.reach, by simp, ?_⟩
      intro a ha b hb
      simp at hb
      subst hb
      exact h.reach a ha
    · intro x hx hxs y hy
      have hx' : x ∈ S.ord := by
        rcases List.mem_append.1 hx with hx | hx
        · exact hx
        · exact absurd (List.mem_append_right _ hx) hxs
      obtain ⟨h1, h2⟩ := h.inv.closed x hx' (fun e => hxs (List.mem_append_left _ e)) y hy
      refine ⟨List.mem_append_left _ h1, fun e => ?_⟩
      rcases List.mem_append.1 e with e | e
      · exact h2 e
      · simp at e; exact hnn y h1 e
    · intro x hx hxs ht
      have hx' : x ∈ S.ord := by
        rcases List.mem_append.1 hx with hx | hx
        · exact hx
        · exact absurd (List.mem_append_right _ hx) hxs
      exact h.inv.fpop x hx' (fun e => hxs (List.mem_append_left _ e)) ht
  · intro x hx
    exact if_neg (hnn x hx)
  · intro x hx hxo hxn
    rcases List.mem_append.1 hx with hx | hx
    · exact absurd hx hxo
    · simp at hx; exact absurd hx hxn
  · intro x hx hxo hxn
    rcases List.mem_append.1 hx with hx | hx
    · exact absurd hx hxo
    · simp at hx; exact absurd hx hxn
  · simp only [upd, if_true]
    rw [num_last h.fresh]
    exact ⟨Nat.le_refl _, n, .inr rfl, num_last h.fresh, Rt.refl n⟩

section steps
variable {ps : List (Int × Int)} {S T : TS} {n m : Int} {es s : List Int}

theorem LInv.nmem (h : LInv ps S n es s T) : n ∈ T.ord := h.ext.subset (by simp)
theorem LInv.pre (h : LInv ps S n es s T) : S.ord <+: T.ord := (List.prefix_append _ _).trans h.ext
theorem LInv.oldmem (h : LInv ps S n es s T) {x : Int} (hx : x ∈ S.ord) : x ∈ T.ord := h.pre.subset hx

/-- everything on the stack reaches n -/
theorem LInv.allreach (h : LInv ps S n es s T) : ∀ z ∈ T.stack, Rt ps z n := by
  intro z hz
  have hr := h.inv.reach
  rw [h.stk, List.pairwise_append, List.pairwise_cons] at hr
  have hS : ∀ a ∈ S.stack, Rt ps a n := fun a ha => hr.2.2 a ha n (by simp)
  rw [h.stk] at hz
  rcases List.mem_append.1 hz with hz | hz
  · exact hS z hz
  · rcases List.mem_cons.1 hz with rfl | hz
    · exact Rt.refl _
    · obtain ⟨q, hq, hzq⟩ := h.back z hz
      rcases hq with hq | rfl
      · exact hzq.trans (hS q hq)
      · exact hzq

theorem LInv.selfStep (h : LInv ps S n es s T) (hp : (n, n) ∈ ps) : LInv ps S n (es ++ [n]) s { T with found := fun x => T.found x ∨ x = n } := by
  refine ⟨⟨h.inv.nd, h.inv.sub, h.inv.son, h.inv.srt, h.inv.reach, h.inv.closed, ?_, fun x hx hs ht => .inl (h.inv.fpop x hx hs ht)⟩, h.ext, fun x hx => .inl (h.fmono x hx), h.low, h.edges, ?_, fun x h1 h2 h3 h4 => .inl (h.selfs x h1 h2 h3 h4), fun _ => .inr rfl, h.stk, h.new, h.back, h.lown, h.bound, ?_⟩
  · rintro x (hx | rfl)
    · exact h.inv.fsound x hx
    · exact .one hp
  · intro y hy
    rcases List.mem_append.1 hy with hy | hy
    · exact h.edgesn y hy
    · simp at hy; subst hy; exact h.nmem
  · intro y hy hys
    rcases List.mem_append.1 hy with hy | hy
    · exact h.boundn y hy hys
    · simp at hy; subst hy
      exact h.lown.1

theorem LInv.offStep (h : LInv ps S n es s T) (hm : m ∈ T.ord) (hs : m ∉ T.stack) (hn : m ≠ n) : LInv ps S n (es ++ [m]) s T := by
  refine ⟨h.inv, h.ext, h.fmono, h.low, h.edges, ?_, h.selfs, ?_, h.stk, h.new, h.back, h.lown, h.bound, ?_⟩
  · intro y hy
    rcases List.mem_append.1 hy with hy | hy
    · exact h.edgesn y hy
    · simp at hy; subst hy; exact hm
  · intro hy
    rcases List.mem_append.1 hy with hy | hy
    · exact h.selfn hy
    · simp at hy; exact absurd hy.symm hn
  · intro y hy hys
    rcases List.mem_append.1 hy with hy | hy
    · exact h.boundn y hy hys
    · simp at hy; subst hy
      exact absurd (by rw [h.stk]; exact List.mem_append_left _ hys) hs

/-- a number's place is above n's where it stands above it in the stack -/
theorem LInv.above (h : LInv ps S n es s T) {x : Int} (hx : x ∈ s) : num T.ord n < num T.ord x := by
  have := h.inv.srt
  rw [h.stk, List.pairwise_append, List.pairwise_cons] at this
  exact this.2.1.1 x hx

theorem LInv.setLow (h : LInv ps S n es s T) (hnS : n ∉ S.ord) {v : Nat} (hv : v ≤ T.low n) (hz : ∃ z, (z ∈ S.stack ∨ z = n) ∧ num T.ord z = v ∧ Rt ps n z) :
    LInv ps S n es s { T with low := upd T.low n v } := by
  refine ⟨⟨h.inv.nd, h.inv.sub, h.inv.son, h.inv.srt, h.inv.reach, h.inv.closed, h.inv.fsound, h.inv.fpop⟩, h.ext, h.fmono, ?_, h.edges, h.edgesn, h.selfs, h.selfn, h.stk, h.new, h.back, ?_, ?_, ?_⟩
  · intro x hx
    have : x ≠ n := fun e => hnS (e ▸ hx)
    simp only [upd, if_neg this]
    exact h.low x hx
  · simp only [upd, if_true]
    exact ⟨Nat.le_trans hv h.lown.1, hz⟩
  · intro x hx y hy hxy
    simp only [upd, if_true]
    exact Nat.le_trans hv (h.bound x hx y hy hxy)
  · intro y hy hys
    simp only [upd, if_true]
    exact Nat.le_trans hv (h.boundn y hy hys)

theorem LInv.onStep (h : LInv ps S n es s T) (hnS : n ∉ S.ord) (hp : (n, m) ∈ ps) (hs : m ∈ T.stack) (hn : m ≠ n) :
    LInv ps S n (es ++ [m]) s { T with low := upd T.low n (min (T.low n) (num T.ord m)) } := by
  have hz : ∃ z, (z ∈ S.stack ∨ z = n) ∧ num T.ord z = min (T.low n) (num T.ord m) ∧ Rt ps n z := by
    obtain ⟨h1, z, hz, e, hr⟩ := h.lown
    by_cases hlt : T.low n ≤ num T.ord m
    · exact ⟨z, hz, by rw [e]; omega, hr⟩
    · rw [h.stk] at hs
      rcases List.mem_append.1 hs with hs | hs
      · exact ⟨m, .inl hs, by omega, Rt.step hp⟩
      · rcases List.mem_cons.1 hs with rfl | hs
        · exact absurd rfl hn
        · have := h.above hs; omega
  have h' := h.setLow hnS (Nat.min_le_left _ _) hz
  refine ⟨h'.inv, h'.ext, h'.fmono, h'.low, h'.edges, ?_, h'.selfs, ?_, h'.stk, h'.new, h'.back, h'.lown, h'.bound, ?_⟩
  · intro y hy
    rcases List.mem_append.1 hy with hy | hy
    · exact h'.edgesn y hy
    · simp at hy; subst hy; exact h.inv.son _ hs
  · intro hy
    rcases List.mem_append.1 hy with hy | hy
    · exact h'.selfn hy
    · simp at hy; exact absurd hy.symm hn
  · intro y hy hys
    rcases List.mem_append.1 hy with hy | hy
    · exact h'.boundn y hy hys
    · simp at hy; subst hy
      simp only [upd, if_true]
      exact Nat.min_le_right _ _

/-- the walk may be begun with m -/
theorem LInv.wpre (h : LInv ps S n es s T) (hp : (n, m) ∈ ps) (hm : m ∉ T.ord) : WPre ps T m :=
  ⟨h.inv, hm, ⟨_, hp, .inr rfl⟩, fun z hz => (h.allreach z hz).trans (Rt.step hp)⟩

theorem LInv.recStep (h : LInv ps S n es s T) (hnS : n ∉ S.ord) (hp : (n, m) ∈ ps) (hm : m ∉ T.ord) {T' : TS} (hw : WPost ps T m T') :
    ∃ s', LInv ps S n (es ++ [m]) s' { T' with low := upd T'.low n (min (T'.low n) (T'.low m)) } := by
  have hext := h.ext.trans hw.ext
  have hn' : n ∈ T'.ord := hext.subset (by simp)
  have hnumT : ∀ x ∈ T.ord, num T'.ord x = num T.ord x := fun x hx => num_prefix hw.ext hx
  have hlow : T'.low n = T.low n := hw.low n h.nmem
  have hmn : m ≠ n := fun e => hm (e ▸ h.nmem)
  have hnewm : num T'.ord n < num T'.ord m := by
    rw [hnumT n h.nmem]
    have := num_new hw.ext hm hw.nin
    have := num_le T.ord n
    omega
  have hso : ∀ z, (z ∈ S.stack ∨ z = n) → z ∈ T.stack := by
    rintro z (hz | rfl)
    · rw [h.stk]; exact List.mem_append_left _ hz
    · rw [h.stk]; simp
  -- the common part
  have main : ∀ s', T'.stack = S.stack ++ n :: s' → (∀ x ∈ s', x ∉ S.ord) → (∀ x ∈ s', ∃ z, (z ∈ S.stack ∨ z = n) ∧ Rt ps x z) → (∀ x ∈ s', ∀ y ∈ S.stack, (x, y) ∈ ps → min (T'.low n) (T'.low m) ≤ num T'.ord y) →
      (∃ z, (z ∈ S.stack ∨ z = n) ∧ num T'.ord z = min (T'.low n) (T'.low m) ∧ Rt ps n z) →
      LInv ps S n (es ++ [m]) s' { T' with low := upd T'.low n (min (T'.low n) (T'.low m)) } := by
    intro s' h1 h2 h3 h4 h5
    have hnum : ∀ y ∈ S.stack, num T'.ord y = num T.ord y := fun y hy => hnumT y (h.inv.son y (hso y (.inl hy)))
    refine ⟨⟨hw.inv.nd, hw.inv.sub, hw.inv.son, hw.inv.srt, hw.inv.reach, hw.inv.closed, hw.inv.fsound, hw.inv.fpop⟩, hext, fun x hx => hw.fmono x (h.fmono x hx), ?_, ?_, ?_, ?_, ?_, h1, h2, h3, ?_, ?_, ?_⟩
    · intro x hx
      have : x ≠ n := fun e => hnS (e ▸ hx)
      simp only [upd, if_neg this]
      rw [hw.low x (h.oldmem hx)]
      exact h.low x hx
    · intro x hx hxS hxn y hy
      by_cases hxT : x ∈ T.ord
      · exact hw.ext.subset (h.edges x hxT hxS hxn y hy)
      · exact hw.edges x hx hxT y hy
    · intro y hy
      rcases List.mem_append.1 hy with hy | hy
      · exact hw.ext.subset (h.edgesn y hy)
      · simp at hy; subst hy; exact hw.nin
    · intro x hx hxS hxn hxx
      by_cases hxT : x ∈ T.ord
      · exact hw.fmono x (h.selfs x hxT hxS hxn hxx)
      · exact hw.selfs x hx hxT hxx
    · intro hy
      rcases List.mem_append.1 hy with hy | hy
      · exact hw.fmono n (h.selfn hy)
      · simp at hy; exact absurd hy.symm hmn
    · simp only [upd, if_true]
      refine ⟨?_, h5⟩
      have := h.lown.1
      rw [← hnumT n h.nmem] at this
      omega
    · intro x hx y hy hxy
      simp only [upd, if_true]
      exact h4 x hx y hy hxy
    · intro y hy hys
      simp only [upd, if_true]
      rcases List.mem_append.1 hy with hy | hy
      · have := h.boundn y hy hys
        rw [hnum y hys]
        omega
      · simp at hy
        subst hy
        exact absurd (h.inv.son _ (hso _ (.inl hys))) hm
  obtain ⟨hl1, z0, hz0, ez0, hrz0⟩ := h.lown
  rcases hw.stk with ⟨hst, hlm⟩ | ⟨s2, hst, hms, hnew, hlt, ⟨z, hzT, ez, hrz⟩, hback, hbound⟩
  · refine ⟨s, main s (hst.trans h.stk) h.new h.back ?_ ?_⟩
    · intro x hx y hy hxy
      have := h.bound x hx y hy hxy
      rw [hnumT y (h.inv.son y (hso y (.inl hy)))]
      omega
    · refine ⟨z0, hz0, ?_, hrz0⟩
      rw [hnumT z0 (h.inv.son z0 (hso z0 hz0)), ez0, hlow]
      have := hnumT n h.nmem
      omega
  · refine ⟨s ++ s2, main (s ++ s2) (by rw [hst, h.stk]; simp) ?_ ?_ ?_ ?_⟩
    · intro x hx
      rcases List.mem_append.1 hx with hx | hx
      · exact h.new x hx
      · exact fun e => hnew x hx (h.oldmem e)
    · intro x hx
      rcases List.mem_append.1 hx with hx | hx
      · exact h.back x hx
      · obtain ⟨q, hq, hxq⟩ := hback x hx
        rw [h.stk] at hq
        rcases List.mem_append.1 hq with hq | hq
        · exact ⟨q, .inl hq, hxq⟩
        · rcases List.mem_cons.1 hq with rfl | hq
          · exact ⟨q, .inr rfl, hxq⟩
          · obtain ⟨r, hr, hqr⟩ := h.back q hq
            exact ⟨r, hr, hxq.trans hqr⟩
    · intro x hx y hy hxy
      rw [hnumT y (h.inv.son y (hso y (.inl hy)))]
      rcases List.mem_append.1 hx with hx | hx
      · have := h.bound x hx y hy hxy
        omega
      · have := hbound x hx y (hso y (.inl hy)) hxy
        rw [hnumT y (h.inv.son y (hso y (.inl hy)))] at this
        omega
    · by_cases hle : T'.low n ≤ T'.low m
      · refine ⟨z0, hz0, ?_, hrz0⟩
        rw [hnumT z0 (h.inv.son z0 (hso z0 hz0)), ez0, hlow]
        omega
      · have hzT' := hzT
        rw [h.stk] at hzT'
        rcases List.mem_append.1 hzT' with hq | hq
        · exact ⟨z, .inl hq, by omega, (Rt.step hp).trans hrz⟩
        · rcases List.mem_cons.1 hq with rfl | hq
          · exact ⟨z, .inr rfl, by omega, Rt.refl _⟩
          · exfalso
            have h1 := h.above hq
            have h2 := hnumT z (h.inv.son z hzT)
            omega

/-- a way's first step -/
theorem Tr.first {a b : Int} (h : Tr ps a b) : ∃ c, (a, c) ∈ ps ∧ Rt ps c b := by
  induction h with
  | one h => exact ⟨_, h, Rt.refl _⟩
  | more _ h ih =>
    obtain ⟨c, h1, h2⟩ := ih
    exact ⟨c, h1, h2.trans (Rt.step h)⟩

theorem LInv.stay (h : LInv ps S n es s T) (hall : ∀ y, (n, y) ∈ ps → y ∈ es) (hl : T.low n ≠ num T.ord n) : WPost ps S n T := by
  have hr := h.inv.reach
  rw [h.stk, List.pairwise_append] at hr
  obtain ⟨h1, z, hz, e, hrz⟩ := h.lown
  have hzS : z ∈ S.stack := by
    rcases hz with hz | rfl
    · exact hz
    · exact absurd e.symm hl
  refine ⟨h.inv, h.pre, h.nmem, h.fmono, h.low, ?_, ?_, .inr ⟨n :: s, h.stk, by simp, ?_, by omega, ⟨z, hzS, e, hrz⟩, ?_, ?_⟩⟩
  · intro x hx hxS y hy
    by_cases hxn : x = n
    · subst hxn; exact h.edgesn y (hall y hy)
    · exact h.edges x hx hxS hxn y hy
  · intro x hx hxS hxx
    by_cases hxn : x = n
    · subst hxn; exact h.selfn (hall _ hxx)
    · exact h.selfs x hx hxS hxn hxx
  · intro x hx
    rcases List.mem_cons.1 hx with rfl | hx
    · intro hxS
      -- n is on T's stack behind S's stack: it can't be an old one
      have hlt := num_new (List.prefix_refl S.ord) (n := x)
      have hp := h.ext
      have hnd := h.inv.nd
      obtain ⟨t, ht⟩ := hp
      rw [← ht] at hnd
      have := (List.nodup_append.1 (List.nodup_append.1 hnd).1).2.2
      exact this x hxS x (by simp) rfl
    · exact h.new x hx
  · intro x hx
    rcases List.mem_cons.1 hx with rfl | hx
    · exact ⟨z, hzS, hrz⟩
    · obtain ⟨q, hq, hxq⟩ := h.back x hx
      rcases hq with hq | rfl
      · exact ⟨q, hq, hxq⟩
      · exact ⟨z, hzS, hxq.trans hrz⟩
  · intro x hx y hy hxy
    rcases List.mem_cons.1 hx with rfl | hx
    · exact h.boundn y (hall y hxy) hy
    · exact h.bound x hx y hy hxy

theorem LInv.pop (h : LInv ps S n es s T) (hSi : TInv ps S) (hnS : n ∉ S.ord) (hall : ∀ y, (n, y) ∈ ps → y ∈ es) (hl : T.low n = num T.ord n) :
    WPost ps S n { T with stack := S.stack, found := fun x => T.found x ∨ (s ≠ [] ∧ (x = n ∨ x ∈ s)) } := by
  have hallr := h.allreach
  have hr := h.inv.reach
  rw [h.stk, List.pairwise_append, List.pairwise_cons] at hr
  have hsrt := h.inv.srt
  rw [h.stk, List.pairwise_append, List.pairwise_cons] at hsrt
  have hpart : ∀ x, x ∈ n :: s ↔ x = n ∨ x ∈ s := fun x => List.mem_cons
  have hnr : ∀ x ∈ n :: s, Rt ps n x := by
    intro x hx
    rcases List.mem_cons.1 hx with rfl | hx
    · exact Rt.refl _
    · exact hr.2.1.1 x hx
  have hrn : ∀ x ∈ n :: s, Rt ps x n := fun x hx => hallr x (by rw [h.stk]; exact List.mem_append_right _ hx)
  -- no pair leads from the part into the stack below
  have hno : ∀ x ∈ n :: s, ∀ y, (x, y) ∈ ps → y ∈ T.ord ∧ y ∉ S.stack := by
    intro x hx y hxy
    rcases List.mem_cons.1 hx with rfl | hx
    · have hye := hall y hxy
      refine ⟨h.edgesn y hye, fun hys => ?_⟩
      have h1 := h.boundn y hye hys
      have h2 := hsrt.2.2 y hys x (by simp)
      omega
    · have hxT : x ∈ T.ord := h.inv.son x (by rw [h.stk]; simp [hx])
      have hxn : x ≠ n := by
        intro e
        have := hsrt.2.1.1 x hx
        rw [e] at this
        omega
      refine ⟨h.edges x hxT (h.new x hx) hxn y hxy, fun hys => ?_⟩
      have h1 := h.bound x hx y hys hxy
      have h2 := hsrt.2.2 y hys n (by simp)
      omega
  have hdis : ∀ x ∈ n :: s, x ∉ S.stack := by
    intro x hx hxs
    have := hsrt.2.2 x hxs x hx
    omega
  have hclosed : ∀ x ∈ T.ord, x ∉ S.stack → ∀ y, (x, y) ∈ ps → y ∈ T.ord ∧ y ∉ S.stack := by
    intro x hx hxs y hxy
    by_cases hxp : x ∈ n :: s
    · exact hno x hxp y hxy
    · obtain ⟨h1, h2⟩ := h.inv.closed x hx (by rw [h.stk, List.mem_append]; exact fun e => e.elim hxs hxp) y hxy
      exact ⟨h1, fun e => h2 (by rw [h.stk]; exact List.mem_append_left _ e)⟩
  refine ⟨⟨h.inv.nd, h.inv.sub, ?_, ?_, hSi.reach, hclosed, ?_, ?_⟩, h.pre, h.nmem, fun x hx => .inl (h.fmono x hx), h.low, ?_, ?_, .inl ⟨rfl, Nat.le_of_eq hl.symm⟩⟩
  · intro x hx; exact h.inv.son x (by rw [h.stk]; exact List.mem_append_left _ hx)
  · exact hsrt.1
  · rintro x (hx | ⟨hne, hx⟩)
    · exact h.inv.fsound x hx
    · -- the part has at least two: x reaches another one and comes back
      have hx' : x ∈ n :: s := (hpart x).2 hx
      obtain ⟨a, t, rfl⟩ := List.exists_cons_of_ne_nil hne
      have han : a ≠ n := by
        intro e
        have := hsrt.2.1.1 a (by simp)
        rw [e] at this
        omega
      have ha' : a ∈ n :: a :: t := by simp
      -- n goes to a, a goes back to n, over at least one pair
      have hna : Tr ps n a := by
        rcases hnr a ha' with e | e
        · exact absurd e.symm han
        · exact e
      have hnn : Tr ps n n := by
        rcases hrn a ha' with e | e
        · exact absurd e han
        · exact hna.trans e
      have h1 := hrn x hx'
      have h2 := hnr x hx'
      rcases h1 with rfl | h1
      · exact hnn
      · rcases h2 with rfl | h2
        · exact h1
        · exact h1.trans h2
  · intro x hx hxs ht
    by_cases hxp : x ∈ n :: s
    · -- in the part
      by_cases hs : s = []
      · subst hs
        simp at hxp
        subst hxp
        obtain ⟨c, hc1, hc2⟩ := ht.first
        by_cases hcx : c = x
        · subst hcx
          exact .inl (h.selfn (hall _ hc1))
        · -- c is popped already, and what is popped is closed
          exfalso
          obtain ⟨hcT, hcS⟩ := hno x (by simp) c hc1
          have hcpop : c ∈ T.ord ∧ c ∉ T.stack := ⟨hcT, by rw [h.stk]; simp [hcS, hcx]⟩
          have := hc2.closed (Q := fun z => z ∈ T.ord ∧ z ∉ T.stack) hcpop (fun u v hu huv => h.inv.closed u hu.1 hu.2 v huv)
          exact this.2 (by rw [h.stk]; simp)
      · exact .inr ⟨hs, (hpart x).1 hxp⟩
    · exact .inl (h.inv.fpop x hx (by rw [h.stk, List.mem_append]; exact fun e => e.elim hxs hxp) ht)
  · intro x hx hxS y hy
    by_cases hxn : x = n
    · subst hxn; exact h.edgesn y (hall y hy)
    · exact h.edges x hx hxS hxn y hy
  · intro x hx hxS hxx
    by_cases hxn : x = n
    · subst hxn; exact .inl (h.selfn (hall _ hxx))
    · exact .inl (h.selfs x hx hxS hxn hxx)
end steps

end Go.Proofs.Ytochkamjfmdmoaa
