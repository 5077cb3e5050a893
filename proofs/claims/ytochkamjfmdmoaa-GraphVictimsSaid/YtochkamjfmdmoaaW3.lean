/- Walks: Without, slices.Index, From, Ring (the reference's). -/
import Derived.Test.YtochkamjfmdmoaaW2
import Derived.Test.YtochkamjfmdmoaaPl
namespace Go.Proofs.Ytochkamjfmdmoaa
open Go.RowKit

def withoutL (ps : List (Int × Int)) (n : Int) : List (Int × Int) := ps.filter fun p => (p.1 != n) && (p.2 != n)

def PairsPost (w : World) (ps : List (Int × Int)) (e : Ending) (w' : World) : Prop :=
  ∃ v', e = .returned v' ∧ w'.ownsRow w.heap.size 30 2 v' ps.length (flat ps) ∧ Chg (fun _ => False) w w'

theorem without_any {w : World} {v : Value} {ps : List (Int × Int)} {B : Nat} (n : Int) (hp : PairsAt w B v ps) (hl : ps.length ≤ 1000) :
    Calls Try.prog 17 #[v, .int .i64 n] w (PairsPost w (withoutL ps n)) := by
  obtain ⟨ao, cap, rfl, -⟩ := id hp
  have HP := Lib.hid hp; clear hp
  go_enter Try.func17, Try.ntmps17
  go_wp2
  go_loopw [5, 6] (fun v i wr => ∃ k : Nat, k ≤ ps.length ∧ i = .int .i64 k ∧ wr.ownsRow w.heap.size 30 2 v (withoutL (ps.take k) n).length (flat (withoutL (ps.take k) n)) ∧ Chg (fun _ => False) w wr) (fun _ i _ => ps.length - (intOf i).toNat)
  case atStart => exact ⟨0, Nat.zero_le _, rfl, World.ownsRow_nil _ _ _ _, Chg.refl _ _⟩
  case round =>
    obtain ⟨k, hk, rfl, hown, hc⟩ := hrel
    have hkl : (withoutL (ps.take k) n).length ≤ k := by have := List.length_filter_le (fun p : Int × Int => (p.1 != n) && (p.2 != n)) (ps.take k); have := List.length_take_le k ps; unfold withoutL; omega
    have HO := Lib.hid hown; have HC := Lib.hid hc; clear hown hc
    by_cases hlt : k < ps.length
    · obtain ⟨ao', cap', hv', hcells⟩ := HP.out
      obtain ⟨b, off, rfl, hbB, c1, c2⟩ := hcells k _ (List.getElem?_eq_getElem hlt)
      cases hv'
      clear hcells
      have c1' := HC.out.cell c1 id
      have c2' := HC.out.cell c2 id
      clear c1 c2
      obtain ⟨⟨x, y⟩, hx⟩ : ∃ x, ps[k] = x := ⟨_, rfl⟩
      rw [hx] at c1' c2'
      simp only at c1' c2'
      have E : Hid (withoutL (ps.take (k+1)) n = withoutL (ps.take k) n ++ if ((x != n) && (y != n)) = true then [(x, y)] else []) := by
        show _ = _
        unfold withoutL
        rw [List.take_succ_eq_append_getElem hlt, List.filter_append, hx]
        simp only [List.filter_cons, List.filter_nil]
      clear hx
      by_cases hx : (x != n) = true
      · by_cases hy : (y != n) = true
        · have E' : Hid (withoutL (ps.take (k+1)) n = withoutL (ps.take k) n ++ [(x, y)]) := by show _ = _; rw [E.out, hx, hy]; rfl
          clear E
          generalize withoutL (ps.take k) n = q at *
          go_wp2_with (at_builtin; refine wpList_app1 rfl _ _ 22 rfl Try.underlying22 Try.info30 rfl (by decide) (by decide) [.int .i64 x, .int .i64 y] rfl rfl HO.out rfl rfl (by intro u hu; simp at hu; rcases hu with rfl | rfl <;> rfl) (by omega) HC.out.size ?_; intro v' w1 ho1 hc1; have HO1 := Lib.hid ho1; have HC1 := Lib.hid hc1; clear ho1 hc1)
          go_roundw
          case rel => exact ⟨k + 1, by omega, by go_num, by rw [E'.out, List.length_append, flat_append]; exact HO1.out, HC.out.trans' HC1.out (fun i hi h => by have := h.1; omega)⟩
          case measure => simp [intOf]; omega
        · have hy : (y != n) = false := by simpa using hy
          have E' : Hid (withoutL (ps.take (k+1)) n = withoutL (ps.take k) n) := by show _ = _; rw [E.out, hx, hy]; simp
          clear E
          generalize withoutL (ps.take k) n = q at *
          go_wp2
          go_roundw
          case rel => exact ⟨k + 1, by omega, by go_num, by rw [E'.out]; exact HO.out, HC.out⟩
          case measure => simp [intOf]; omega
      · have hx : (x != n) = false := by simpa using hx
        have E' : Hid (withoutL (ps.take (k+1)) n = withoutL (ps.take k) n) := by show _ = _; rw [E.out, hx]; simp
        clear E
        generalize withoutL (ps.take k) n = q at *
        go_wp2
        go_roundw
        case rel => exact ⟨k + 1, by omega, by go_num, by rw [E'.out]; exact HO.out, HC.out⟩
        case measure => simp [intOf]; omega
    · go_wp2
      go_ret
      have hkk : ps.take k = ps := List.take_of_length_le (by omega)
      refine ⟨_, rfl, ?_, HC.out⟩
      have := HO.out
      rwa [hkk] at this

def IntPost (w : World) (n : Int) (e : Ending) (w' : World) : Prop := e = .returned (.int .i64 n) ∧ w = w'

/-- slices.Index, where the number stands first at place k -/
theorem index_any {w : World} {v : Value} {l : List Int} {B : Nat} (n : Int) (at_ : Nat) (hp : IntsAt w B v l) (hl : l.length ≤ 1000000) (hat : l[at_]? = some n) (hno : n ∉ l.take at_) :
    Calls Try.prog 27 #[v, .int .i64 n] w (IntPost w at_) := by
  obtain ⟨ao, cap, rfl, -⟩ := id hp
  have HP := Lib.hid hp; clear hp
  have hal : at_ < l.length := (List.getElem?_eq_some_iff.1 hat).1
  have HA := Lib.hid hat; clear hat
  have HN := Lib.hid hno; clear hno
  go_enter Try.func27, Try.ntmps27
  go_wp2
  go_loop [8] (fun i => ∃ k : Nat, k ≤ at_ ∧ i = .int .i64 k) (fun i => l.length - (intOf i).toNat)
  case atStart => exact ⟨0, Nat.zero_le _, rfl⟩
  case round =>
    obtain ⟨k, hk, rfl⟩ := hrel
    have hlt : k < l.length := by omega
    obtain ⟨ao', cap', hv', -, hcells⟩ := HP.out
    obtain ⟨b, off, rfl, hbB, c1⟩ := hcells k _ (List.getElem?_eq_getElem hlt)
    cases hv'
    clear hcells
    obtain ⟨x, hx⟩ : ∃ x, l[k] = x := ⟨_, rfl⟩
    rw [hx] at c1
    have HX := Lib.hid hx; clear hx
    by_cases hxn : (n == x) = true
    · have : k = at_ := by
        refine Classical.byContradiction fun hne => HN.out ?_
        rw [beq_iff_eq.1 hxn, ← HX.out]
        rw [List.mem_take_iff_getElem]
        exact ⟨k, by omega, rfl⟩
      subst this
      go_wp2
      go_ret
      exact ⟨rfl, rfl⟩
    · have hxn : (n == x) = false := by simpa using hxn
      have hka : k < at_ := by
        have : k ≠ at_ := fun e => by
          have := HA.out
          subst e
          rw [List.getElem?_eq_getElem hlt, HX.out] at this
          cases this
          simp at hxn
        omega
      go_wp2
      go_round
      case rel => exact ⟨k + 1, by omega, by go_num⟩
      case measure => simp [intOf]; omega

def FromPost (w : World) (ps : List (Int × Int)) (n : Int) (e : Ending) (w' : World) : Prop :=
  ∃ v' l, e = .returned v' ∧ w'.ownsRow w.heap.size 3 1 v' l.length (ints l) ∧ l.length ≤ ps.length ∧ (∀ x, x ∈ l ↔ Tr ps n x) ∧ Chg (fun _ => False) w w'

structure FromInv (ps : List (Int × Int)) (n : Int) (out : List Int) : Prop where
  nodup : out.Nodup
  sound : ∀ x ∈ out, Tr ps n x
theorem FromInv.len {ps : List (Int × Int)} {n : Int} {out : List Int} (h : FromInv ps n out) : out.length ≤ ps.length := by
  have := nodup_length_le (l := out) (m := ps.map (·.2)) h.nodup (fun x hx => by
    obtain ⟨p, hp, e⟩ := (h.sound x hx).snd
    exact List.mem_map.2 ⟨p, hp, e⟩)
  simpa using this
theorem FromInv.put {ps : List (Int × Int)} {n : Int} {out : List Int} (h : FromInv ps n out) {x y : Int} (hm : (x, y) ∈ ps) (hx : x = n ∨ x ∈ out) (hy : y ∉ out) : FromInv ps n (out ++ [y]) := by
  refine ⟨List.nodup_append.2 ⟨h.nodup, by simp, by simp; intro a ha e; exact hy (e ▸ ha)⟩, ?_⟩
  intro z hz
  simp only [List.mem_append, List.mem_singleton] at hz
  rcases hz with hz | rfl
  · exact h.sound z hz
  · rcases hx with rfl | hx
    · exact .one hm
    · exact .more (h.sound _ hx) hm

theorem from_any {w : World} {v : Value} {ps : List (Int × Int)} {B : Nat} (n : Int) (hp : PairsAt w B v ps) (hl : ps.length ≤ 1000) :
    Calls Try.prog 25 #[v, .int .i64 n] w (FromPost w ps n) := by
  obtain ⟨ao, cap, rfl, -⟩ := id hp
  have HP := Lib.hid hp; clear hp
  go_enter Try.func25, Try.ntmps25
  go_wp2
  go_loopg [5, 6] (2 * ps.length + 2) (fun g v m wr => ∃ (out : List Int) (more : Bool), m = .bool more ∧ wr.ownsRow w.heap.size 3 1 v out.length (ints out) ∧ Chg (fun _ => False) w wr ∧ FromInv ps n out ∧
      (more = false → ∀ p ∈ ps, (p.1 = n ∨ p.1 ∈ out) → p.2 ∈ out) ∧ 2 * (ps.length - out.length) + (if more then 1 else 0) < g)
  case atStart => exact ⟨[], true, rfl, World.ownsRow_nil _ _ _ _, Chg.refl _ _, ⟨by simp, by simp⟩, by simp, by simp⟩
  case round =>
    obtain ⟨out, more, rfl, hown, hc, hinv, hdone, hm⟩ := hrel
    have HO := Lib.hid hown; have HC := Lib.hid hc; have HI := Lib.hid hinv; have HM := Lib.hid hm; clear hown hc hinv hm
    cases more
    · have HD := Lib.hid (hdone rfl); clear hdone
      go_wp2
      go_ret
      refine ⟨_, out, rfl, HO.out, HI.out.len, fun x => ⟨HI.out.sound x, fun h => ?_⟩, HC.out⟩
      have hd := HD.out
      exact h.closed (fun y hy => hd _ hy (.inl rfl)) (fun y z hy hz => hd _ hz (.inr hy))
    · clear hdone
      go_wp2
      obtain ⟨wo, rfl⟩ : ∃ wo : World, wo = wr := ⟨_, rfl⟩
      go_loopw [5, 6, 7] (fun v m i wr => ∃ (out' : List Int) (more : Bool) (k : Nat), i = .int .i64 k ∧ k ≤ ps.length ∧ m = .bool more ∧ wr.ownsRow w.heap.size 3 1 v out'.length (ints out') ∧ Chg (fun _ => False) w wr ∧ FromInv ps n out' ∧
          (more = false → out' = out ∧ ∀ p ∈ ps.take k, (p.1 = n ∨ p.1 ∈ out) → p.2 ∈ out) ∧ (more = true → out.length < out'.length)) (fun _ _ i _ => ps.length - (intOf i).toNat)
      case atStart => exact ⟨out, false, 0, rfl, Nat.zero_le _, rfl, HO.out, HC.out, HI.out, by simp, by simp⟩
      case round =>
        clear HO HC
        obtain ⟨out', more, k, rfl, hk, rfl, hown, hc, hinv, hdone, hgrow⟩ := hrel
        have hol : out'.length ≤ ps.length := hinv.len
        have HO := Lib.hid hown; have HC := Lib.hid hc; have HI' := Lib.hid hinv; have HD' := Lib.hid hdone; have HG := Lib.hid hgrow; clear hown hc hinv hdone hgrow
        by_cases hlt : k < ps.length
        · obtain ⟨ao', cap', hv', hcells⟩ := HP.out
          obtain ⟨b, off, rfl, hbB, c1, c2⟩ := hcells k _ (List.getElem?_eq_getElem hlt)
          cases hv'
          clear hcells
          have c1' := HC.out.cell c1 id
          have c2' := HC.out.cell c2 id
          clear c1 c2
          obtain ⟨⟨x, y⟩, hx⟩ : ∃ x, ps[k] = x := ⟨_, rfl⟩
          rw [hx] at c1' c2'
          simp only at c1' c2'
          have E : Hid (ps.take (k+1) = ps.take k ++ [(x, y)]) := by show _ = _; rw [List.take_succ_eq_append_getElem hlt, hx]
          have HMem : Hid ((x, y) ∈ ps) := by show _ ∈ _; rw [← hx]; exact List.getElem_mem _
          clear hx
          -- one round that changes nothing
          have keep : ((x = n ∨ x ∈ out') → y ∈ out') → (more = false → out' = out ∧ ∀ p ∈ ps.take (k+1), (p.1 = n ∨ p.1 ∈ out) → p.2 ∈ out) := by
            intro h hm
            obtain ⟨h1, h2⟩ := HD'.out hm
            refine ⟨h1, fun p hp => ?_⟩
            rw [E.out] at hp
            rcases List.mem_append.1 hp with hp | hp
            · exact h2 p hp
            · simp at hp; subst hp; rw [← h1]; exact h
          have KEEP := Lib.hid keep; clear keep
          have hin1 : ∀ z, Calls Try.prog 23 #[u5, .int .i64 z] wr (BoolPost wr (decide (z ∈ out'))) := fun z => in_any z (owned_ints HO.out (Nat.le_refl _)) (by omega)
          have HIN := Lib.hid hin1; clear hin1
          obtain ⟨qx, hqx⟩ : ∃ q, decide (x ∈ out') = q := ⟨_, rfl⟩
          obtain ⟨qy, hqy⟩ : ∃ q, decide (y ∈ out') = q := ⟨_, rfl⟩
          have HQX := Lib.hid hqx; clear hqx
          have HQY := Lib.hid hqy; clear hqy
          by_cases hxn : (x == n) = true
          · have HXN : Hid (x = n) := beq_iff_eq.1 hxn
            cases qy
            · have hy : Hid (y ∉ out') := (show y ∉ out' by have := HQY.out; simpa using this)
              go_wp2_with (first | (go_at_call 23; refine (HIN.out _).mono ?_; (first | rw [HQX.out] | rw [HQY.out]); rintro e w' ⟨rfl, rfl⟩) | (at_builtin; refine wpList_app1 rfl _ _ 24 rfl Try.underlying24 Try.info3 rfl (by decide) (by decide) [.int .i64 y] rfl rfl HO.out rfl rfl (by intro u hu; simp at hu; subst hu; rfl) (by omega) HC.out.size ?_; intro v' w1 ho1 hc1; have HO1 := Lib.hid ho1; have HC1 := Lib.hid hc1; clear ho1 hc1))
              go_roundw
              case rel => exact ⟨out' ++ [y], true, k + 1, by go_num, by omega, rfl, by rw [List.length_append, ints_append]; exact HO1.out, HC.out.trans' HC1.out (fun i hi h => by have := h.1; omega), HI'.out.put HMem.out (.inl HXN.out) hy.out, by simp, fun _ => by
                rw [List.length_append]
                cases more
                · rw [(HD'.out rfl).1]; simp
                · have := HG.out rfl; simp; omega⟩
              case measure => simp [intOf]; omega
            · have hy : Hid (y ∈ out') := (show y ∈ out' by have := HQY.out; simpa using this)
              go_wp2_with (first | (go_at_call 23; refine (HIN.out _).mono ?_; (first | rw [HQX.out] | rw [HQY.out]); rintro e w' ⟨rfl, rfl⟩))
              go_roundw
              case rel => exact ⟨out', more, k + 1, by go_num, by omega, rfl, HO.out, HC.out, HI'.out, KEEP.out (fun _ => hy.out), HG.out⟩
              case measure => simp [intOf]; omega
          · have hxn : (x == n) = false := by simpa using hxn
            have HXN : Hid (x ≠ n) := beq_eq_false_iff_ne.1 hxn
            cases qx
            · have hx : Hid (x ∉ out') := (show x ∉ out' by have := HQX.out; simpa using this)
              go_wp2_with (first | (go_at_call 23; refine (HIN.out _).mono ?_; (first | rw [HQX.out] | rw [HQY.out]); rintro e w' ⟨rfl, rfl⟩))
              go_roundw
              case rel => exact ⟨out', more, k + 1, by go_num, by omega, rfl, HO.out, HC.out, HI'.out, KEEP.out (fun h => absurd h (by rintro (h | h); exact HXN.out h; exact hx.out h)), HG.out⟩
              case measure => simp [intOf]; omega
            · have hx : Hid (x ∈ out') := (show x ∈ out' by have := HQX.out; simpa using this)
              cases qy
              · have hy : Hid (y ∉ out') := (show y ∉ out' by have := HQY.out; simpa using this)
                go_wp2_with (first | (go_at_call 23; refine (HIN.out _).mono ?_; (first | rw [HQX.out] | rw [HQY.out]); rintro e w' ⟨rfl, rfl⟩) | (at_builtin; refine wpList_app1 rfl _ _ 24 rfl Try.underlying24 Try.info3 rfl (by decide) (by decide) [.int .i64 y] rfl rfl HO.out rfl rfl (by intro u hu; simp at hu; subst hu; rfl) (by omega) HC.out.size ?_; intro v' w1 ho1 hc1; have HO1 := Lib.hid ho1; have HC1 := Lib.hid hc1; clear ho1 hc1))
                go_roundw
                case rel => exact ⟨out' ++ [y], true, k + 1, by go_num, by omega, rfl, by rw [List.length_append, ints_append]; exact HO1.out, HC.out.trans' HC1.out (fun i hi h => by have := h.1; omega), HI'.out.put HMem.out (.inr hx.out) hy.out, by simp, fun _ => by
                  rw [List.length_append]
                  cases more
                  · rw [(HD'.out rfl).1]; simp
                  · have := HG.out rfl; simp; omega⟩
                case measure => simp [intOf]; omega
              · have hy : Hid (y ∈ out') := (show y ∈ out' by have := HQY.out; simpa using this)
                go_wp2_with (first | (go_at_call 23; refine (HIN.out _).mono ?_; (first | rw [HQX.out] | rw [HQY.out]); rintro e w' ⟨rfl, rfl⟩))
                go_roundw
                case rel => exact ⟨out', more, k + 1, by go_num, by omega, rfl, HO.out, HC.out, HI'.out, KEEP.out (fun _ => hy.out), HG.out⟩
                case measure => simp [intOf]; omega
        · have hkk : k = ps.length := by omega
          clear hlt
          have hlt : ¬ k < ps.length := by omega
          have HKK := Lib.hid hkk; clear hkk
          go_wp2
          go_roundg (2 * (ps.length - out'.length) + (if more then 1 else 0) + 1)
          case measure =>
            have := HM.out
            cases more
            · rw [(HD'.out rfl).1]; simp at this ⊢; omega
            · have := HG.out rfl; simp at *; omega
          case rel =>
            refine ⟨out', more, rfl, HO.out, HC.out, HI'.out, fun hm => ?_, by omega⟩
            obtain ⟨h1, h2⟩ := HD'.out hm
            rw [h1]
            rw [HKK.out, List.take_length] at h2
            exact h2

theorem refRing_any {w : World} {v : Value} {ps : List (Int × Int)} {B : Nat} (n : Int) (q : Bool) (hq : q = true ↔ Tr ps n n) (hp : PairsAt w B v ps) (hl : ps.length ≤ 1000) :
    Calls Try.prog 15 #[v, .int .i64 n] w (BoolPost' w q) := by
  have HP := Lib.hid hp; clear hp
  have HQ := Lib.hid hq; clear hq
  go_enter Try.func15, Try.ntmps15
  go_wp2_with fail
  refine (from_any n HP.out hl).mono ?_
  rintro e w' ⟨v', l, rfl, ho, hll, hm, hc⟩
  have HO := Lib.hid ho; have HC := Lib.hid hc; have HM := Lib.hid hm; clear ho hc hm
  have e : decide (n ∈ l) = q := by
    have h1 := HM.out n
    have h2 := HQ.out
    cases q
    · simp at h2; simp [h1, h2]
    · simp at h2; simp [h1, h2]
  go_wp2_with (go_at_call 23; refine (in_any n (owned_ints HO.out (Nat.le_refl _)) (by omega)).mono ?_; rw [e]; rintro e w' ⟨rfl, rfl⟩)
  go_ret
  exact ⟨rfl, HC.out⟩

end Go.Proofs.Ytochkamjfmdmoaa
