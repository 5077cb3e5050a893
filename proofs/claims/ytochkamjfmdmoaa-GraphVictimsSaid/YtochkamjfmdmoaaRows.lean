/-
  No cell of these rows narrows 'for every input' (looked for: loops, veiled, ifaces, maps, wideKeys, modest, calm, conditions, laid).
  DERIVED. THE GIVEN ROWS OF THIS SEAT. 4 by the template 'for every input the law returns true; each argument reads behind the call as it read before'; 0 by the template 'total and deterministic' (their statements: YtochkamjfmdmoaaTotals.lean).
  GIVEN WITH THE SEED: the statements are not yours to turn. If you find one false, say at which input.
  Laid BY PROGRAM, IN A SANDBOX (cutbox-rows.mjs): the forced cells as the released guide's own fill.sh prints them over the translation 2a43ba8ac94fd548… (all of the seat's roots in one cut). By AI agents, Wed Nov 11 2026. No macro, syntax, notation, axiom, sorry.
-/
import Derived.Test.YtochkamjfmdmoaaChecked
import GoSem.Claim
import GoSem.ClaimJoined
import GoSem.ClaimMapViews
import Derived.JoinedTies
import Derived.KernelRfl
namespace Go.Proofs.Ytochkamjfmdmoaa
/- THE CELL 'sum', in the pinned program and in every row, IS THE sha256 OF THE DUMP (.gsa) THAT YtochkamjfmdmoaaProg.lean LOADS. Nothing in Lean hashes anything: it is a label: what it is worth is what the hold of that sum in a sandbox is worth. -/
noncomputable def Try.pinned : Pinned := { name := "ytochkamjfmdmoaa", sum := "2a43ba8ac94fd54810ede4bc50c8dca3a65c5e643e83ae7487ce2c3a6e7ef915", checked := Try.checked }
namespace Rows
def none {H : Type} : Left H := { results := [], args := [] }

/-- 'trothlaw14.GraphOrders': WHATEVER THE INPUT: true; the input reads as it did. -/
def graphOrdersSpec : ChangeSpec := { name := "graphOrders", fn := fun _ => fun
  | [d] => { results := [.lit (.bool true)], args := [d] }
  | _ => none }
def graphOrdersRow : OpenClaim := { program := "ytochkamjfmdmoaa", sum := "2a43ba8ac94fd54810ede4bc50c8dca3a65c5e643e83ae7487ce2c3a6e7ef915", func := "troth/trothlaw14.GraphOrders", spec := "graphOrders", unfollowed := true, recurses := true, apart := false }
def GraphOrdersSaid : Prop := graphOrdersRow.holds Try.pinned (OpenSpec.ofChange graphOrdersSpec)

/-- ITS FALSE NEIGHBOUR: 'it returns false'. Refute it at one input. -/
def graphOrdersWrong : ChangeSpec := { name := "graphOrders", fn := fun _ => fun
  | [d] => { results := [.lit (.bool false)], args := [d] }
  | _ => none }
def GraphOrdersWrongFalsely : Prop := graphOrdersRow.holds Try.pinned (OpenSpec.ofChange graphOrdersWrong)

/-- 'trothlaw14.GraphTells': WHATEVER THE INPUT: true; the input reads as it did. -/
def graphTellsSpec : ChangeSpec := { name := "graphTells", fn := fun _ => fun
  | [d1, d2] => { results := [.lit (.bool true)], args := [d1, d2] }
  | _ => none }
def graphTellsRow : OpenClaim := { program := "ytochkamjfmdmoaa", sum := "2a43ba8ac94fd54810ede4bc50c8dca3a65c5e643e83ae7487ce2c3a6e7ef915", func := "troth/trothlaw14.GraphTells", spec := "graphTells", unfollowed := true, recurses := true, apart := false }
def GraphTellsSaid : Prop := graphTellsRow.holds Try.pinned (OpenSpec.ofChange graphTellsSpec)

/-- ITS FALSE NEIGHBOUR: 'it returns false'. Refute it at one input. -/
def graphTellsWrong : ChangeSpec := { name := "graphTells", fn := fun _ => fun
  | [d1, d2] => { results := [.lit (.bool false)], args := [d1, d2] }
  | _ => none }
def GraphTellsWrongFalsely : Prop := graphTellsRow.holds Try.pinned (OpenSpec.ofChange graphTellsWrong)

/-- 'trothlaw14.GraphVictims': WHATEVER THE INPUT: true; the input reads as it did. -/
def graphVictimsSpec : ChangeSpec := { name := "graphVictims", fn := fun _ => fun
  | [d] => { results := [.lit (.bool true)], args := [d] }
  | _ => none }
def graphVictimsRow : OpenClaim := { program := "ytochkamjfmdmoaa", sum := "2a43ba8ac94fd54810ede4bc50c8dca3a65c5e643e83ae7487ce2c3a6e7ef915", func := "troth/trothlaw14.GraphVictims", spec := "graphVictims", unfollowed := true, recurses := true, apart := false }
def GraphVictimsSaid : Prop := graphVictimsRow.holds Try.pinned (OpenSpec.ofChange graphVictimsSpec)

/-- ITS FALSE NEIGHBOUR: 'it returns false'. Refute it at one input. -/
def graphVictimsWrong : ChangeSpec := { name := "graphVictims", fn := fun _ => fun
  | [d] => { results := [.lit (.bool false)], args := [d] }
  | _ => none }
def GraphVictimsWrongFalsely : Prop := graphVictimsRow.holds Try.pinned (OpenSpec.ofChange graphVictimsWrong)

/-- 'trothlaw14.GraphRound': WHATEVER THE INPUT: true; the input reads as it did. -/
def graphRoundSpec : ChangeSpec := { name := "graphRound", fn := fun _ => fun
  | [d1, d2] => { results := [.lit (.bool true)], args := [d1, d2] }
  | _ => none }
def graphRoundRow : OpenClaim := { program := "ytochkamjfmdmoaa", sum := "2a43ba8ac94fd54810ede4bc50c8dca3a65c5e643e83ae7487ce2c3a6e7ef915", func := "troth/trothlaw14.GraphRound", spec := "graphRound", unfollowed := true, recurses := true, apart := false }
def GraphRoundSaid : Prop := graphRoundRow.holds Try.pinned (OpenSpec.ofChange graphRoundSpec)

/-- ITS FALSE NEIGHBOUR: 'it returns false'. Refute it at one input. -/
def graphRoundWrong : ChangeSpec := { name := "graphRound", fn := fun _ => fun
  | [d1, d2] => { results := [.lit (.bool false)], args := [d1, d2] }
  | _ => none }
def GraphRoundWrongFalsely : Prop := graphRoundRow.holds Try.pinned (OpenSpec.ofChange graphRoundWrong)

/- THE SECOND FORM. 'bulk': how many values and letters a reading holds, each counted each time it is reached (what is shared counts as often as it is met; a slice's spare places count too). A statement '..UptoSaid' is the law's where the arguments, and the package variables that the reading takes, are together of bulk at most 1048576: NARROWER than '..Said'. Prove '..Said' where nothing that the law and all that it calls make is longer than what came in: it says more and counts as full. Else prove '..UptoSaid'. A law counts once. -/
mutual
def uptoBulk {H : Type} : DataW H → Nat
  | .lit (.string bytes) => bytes.length + 1
  | .lit _ => 1
  | .nil => 1
  | .ptr d => uptoBulk d + 1
  | .slice elems spare => uptoBulkAll elems + uptoBulkAll spare + 1
  | .agg parts => uptoBulkAll parts + 1
  | .iface _ d => uptoBulk d + 1
  | .map entries => uptoBulkEntries entries + 1
  | .held _ => 1
def uptoBulkAll {H : Type} : List (DataW H) → Nat
  | [] => 0
  | d :: r => uptoBulk d + uptoBulkAll r
def uptoBulkEntries {H : Type} : List (Lit × DataW H) → Nat
  | [] => 0
  | x :: r => uptoBulkEntry x + uptoBulkEntries r
def uptoBulkEntry {H : Type} : Lit × DataW H → Nat
  | (.string bytes, d) => bytes.length + uptoBulk d + 1
  | (_, d) => uptoBulk d + 1
 end
def uptoSmall : (H : Type) → List (DataW H) → Bool := fun _ ds => decide (uptoBulkAll ds ≤ 1048576)
def OpenSpec.upto (s : _root_.Go.ChangeSpec) : _root_.Go.OpenSpec := { _root_.Go.OpenSpec.ofChange s with cond := some uptoSmall }

/-- 'trothlaw14.GraphOrders', WHERE WHAT IT READS IS OF BULK AT MOST 1048576: true; the input reads as it did. -/
def graphOrdersUptoRow : OpenClaim := { program := "ytochkamjfmdmoaa", sum := "2a43ba8ac94fd54810ede4bc50c8dca3a65c5e643e83ae7487ce2c3a6e7ef915", func := "troth/trothlaw14.GraphOrders", spec := "graphOrders", unfollowed := true, recurses := true, apart := false, narrowed := true }
def GraphOrdersUptoSaid : Prop := graphOrdersUptoRow.holds Try.pinned (OpenSpec.upto graphOrdersSpec)

/-- 'trothlaw14.GraphTells', WHERE WHAT IT READS IS OF BULK AT MOST 1048576: true; the input reads as it did. -/
def graphTellsUptoRow : OpenClaim := { program := "ytochkamjfmdmoaa", sum := "2a43ba8ac94fd54810ede4bc50c8dca3a65c5e643e83ae7487ce2c3a6e7ef915", func := "troth/trothlaw14.GraphTells", spec := "graphTells", unfollowed := true, recurses := true, apart := false, narrowed := true }
def GraphTellsUptoSaid : Prop := graphTellsUptoRow.holds Try.pinned (OpenSpec.upto graphTellsSpec)

/-- 'trothlaw14.GraphVictims', WHERE WHAT IT READS IS OF BULK AT MOST 1048576: true; the input reads as it did. -/
def graphVictimsUptoRow : OpenClaim := { program := "ytochkamjfmdmoaa", sum := "2a43ba8ac94fd54810ede4bc50c8dca3a65c5e643e83ae7487ce2c3a6e7ef915", func := "troth/trothlaw14.GraphVictims", spec := "graphVictims", unfollowed := true, recurses := true, apart := false, narrowed := true }
def GraphVictimsUptoSaid : Prop := graphVictimsUptoRow.holds Try.pinned (OpenSpec.upto graphVictimsSpec)

/-- 'trothlaw14.GraphRound', WHERE WHAT IT READS IS OF BULK AT MOST 1048576: true; the input reads as it did. -/
def graphRoundUptoRow : OpenClaim := { program := "ytochkamjfmdmoaa", sum := "2a43ba8ac94fd54810ede4bc50c8dca3a65c5e643e83ae7487ce2c3a6e7ef915", func := "troth/trothlaw14.GraphRound", spec := "graphRound", unfollowed := true, recurses := true, apart := false, narrowed := true }
def GraphRoundUptoSaid : Prop := graphRoundUptoRow.holds Try.pinned (OpenSpec.upto graphRoundSpec)

end Rows
end Go.Proofs.Ytochkamjfmdmoaa
