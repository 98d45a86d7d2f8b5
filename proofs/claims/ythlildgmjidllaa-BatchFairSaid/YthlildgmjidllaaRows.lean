/-
  No cell of these rows narrows 'for every input' (looked for: loops, veiled, ifaces, maps, wideKeys, modest, calm, conditions, laid).
  DERIVED. THE GIVEN ROWS OF THIS SEAT. 3 by the template 'for every input the law returns true; each argument reads behind the call as it read before'; 0 by the template 'total and deterministic' (their statements: YthlildgmjidllaaTotals.lean).
  GIVEN WITH THE SEED: the statements are not yours to turn. If you find one false, say at which input.
  Laid BY PROGRAM, IN A SANDBOX (cutbox-rows.mjs): the forced cells as the released guide's own fill.sh prints them over the translation 044e5aafd87ae1c8… (all of the seat's roots in one cut). By AI agents, Wed Nov 11 2026. No macro, syntax, notation, axiom, sorry.
-/
import Derived.Test.YthlildgmjidllaaChecked
import GoSem.Claim
import GoSem.ClaimJoined
import GoSem.ClaimMapViews
import Derived.JoinedTies
import Derived.KernelRfl
namespace Go.Proofs.Ythlildgmjidllaa
/- THE CELL 'sum', in the pinned program and in every row, IS THE sha256 OF THE DUMP (.gsa) THAT YthlildgmjidllaaProg.lean LOADS. Nothing in Lean hashes anything: it is a label: what it is worth is what the hold of that sum in a sandbox is worth. -/
noncomputable def Try.pinned : Pinned := { name := "ythlildgmjidllaa", sum := "044e5aafd87ae1c83e41aeb69ccd0c3b8dd0eebcfbedfbc55c84f951acf44bf2", checked := Try.checked }
namespace Rows
def none {H : Type} : Left H := { results := [], args := [] }

/-- 'pelotonlaw22.BatchFair': WHATEVER THE INPUT: true; the input reads as it did. -/
def batchFairSpec : ChangeSpec := { name := "batchFair", fn := fun _ => fun
  | [d1, d2, d3] => { results := [.lit (.bool true)], args := [d1, d2, d3] }
  | _ => none }
def batchFairRow : OpenClaim := { program := "ythlildgmjidllaa", sum := "044e5aafd87ae1c83e41aeb69ccd0c3b8dd0eebcfbedfbc55c84f951acf44bf2", func := "peloton/pelotonlaw22.BatchFair", spec := "batchFair", unfollowed := true, recurses := true, apart := false }
def BatchFairSaid : Prop := batchFairRow.holds Try.pinned (OpenSpec.ofChange batchFairSpec)

/-- ITS FALSE NEIGHBOUR: 'it returns false'. Refute it at one input. -/
def batchFairWrong : ChangeSpec := { name := "batchFair", fn := fun _ => fun
  | [d1, d2, d3] => { results := [.lit (.bool false)], args := [d1, d2, d3] }
  | _ => none }
def BatchFairWrongFalsely : Prop := batchFairRow.holds Try.pinned (OpenSpec.ofChange batchFairWrong)

/-- 'pelotonlaw22.BatchKeeps': WHATEVER THE INPUT: true; the input reads as it did. -/
def batchKeepsSpec : ChangeSpec := { name := "batchKeeps", fn := fun _ => fun
  | [d1, d2, d3] => { results := [.lit (.bool true)], args := [d1, d2, d3] }
  | _ => none }
def batchKeepsRow : OpenClaim := { program := "ythlildgmjidllaa", sum := "044e5aafd87ae1c83e41aeb69ccd0c3b8dd0eebcfbedfbc55c84f951acf44bf2", func := "peloton/pelotonlaw22.BatchKeeps", spec := "batchKeeps", unfollowed := true, recurses := true, apart := false }
def BatchKeepsSaid : Prop := batchKeepsRow.holds Try.pinned (OpenSpec.ofChange batchKeepsSpec)

/-- ITS FALSE NEIGHBOUR: 'it returns false'. Refute it at one input. -/
def batchKeepsWrong : ChangeSpec := { name := "batchKeeps", fn := fun _ => fun
  | [d1, d2, d3] => { results := [.lit (.bool false)], args := [d1, d2, d3] }
  | _ => none }
def BatchKeepsWrongFalsely : Prop := batchKeepsRow.holds Try.pinned (OpenSpec.ofChange batchKeepsWrong)

/-- 'pelotonlaw22.BatchActs': WHATEVER THE INPUT: true; the input reads as it did. -/
def batchActsSpec : ChangeSpec := { name := "batchActs", fn := fun _ => fun
  | [d1, d2] => { results := [.lit (.bool true)], args := [d1, d2] }
  | _ => none }
def batchActsRow : OpenClaim := { program := "ythlildgmjidllaa", sum := "044e5aafd87ae1c83e41aeb69ccd0c3b8dd0eebcfbedfbc55c84f951acf44bf2", func := "peloton/pelotonlaw22.BatchActs", spec := "batchActs", unfollowed := true, recurses := true, apart := false }
def BatchActsSaid : Prop := batchActsRow.holds Try.pinned (OpenSpec.ofChange batchActsSpec)

/-- ITS FALSE NEIGHBOUR: 'it returns false'. Refute it at one input. -/
def batchActsWrong : ChangeSpec := { name := "batchActs", fn := fun _ => fun
  | [d1, d2] => { results := [.lit (.bool false)], args := [d1, d2] }
  | _ => none }
def BatchActsWrongFalsely : Prop := batchActsRow.holds Try.pinned (OpenSpec.ofChange batchActsWrong)

/- THE SECOND FORM. 'bulk': how many values and letters a reading holds, each counted each time it is reached (what is shared counts as often as it is met; a slice's spare places count too). A statement '..UptoSaid' is the law's where the arguments, and the package variables that the reading takes, are together of bulk at most 1048576: NARROWER than '..Said'. Prove '..Said' where nothing that the law and all that it calls make is longer than what came in: it says more and counts as full. Else prove '..UptoSaid'. A law counts once. -/
mutual
def uptoBulk {H : Type} : DataW H → Nat
  | .lit (.string bytes) => bytes.length + 1
  | .lit _ => 1
  | .nil => 1
  | .ptr d => uptoBulk d + 1
  | .slice elems spare => uptoBulkAll elems + uptoBulkAll spare + 1
  | .agg parts => uptoBulkAll parts + 1
  | .iface _ d => uptoBulk d + 1
  | .map entries => uptoBulkEntries entries + 1
  | .held _ => 1
def uptoBulkAll {H : Type} : List (DataW H) → Nat
  | [] => 0
  | d :: r => uptoBulk d + uptoBulkAll r
def uptoBulkEntries {H : Type} : List (Lit × DataW H) → Nat
  | [] => 0
  | x :: r => uptoBulkEntry x + uptoBulkEntries r
def uptoBulkEntry {H : Type} : Lit × DataW H → Nat
  | (.string bytes, d) => bytes.length + uptoBulk d + 1
  | (_, d) => uptoBulk d + 1
 end
def uptoSmall : (H : Type) → List (DataW H) → Bool := fun _ ds => decide (uptoBulkAll ds ≤ 1048576)
def OpenSpec.upto (s : _root_.Go.ChangeSpec) : _root_.Go.OpenSpec := { _root_.Go.OpenSpec.ofChange s with cond := some uptoSmall }

/-- 'pelotonlaw22.BatchFair', WHERE WHAT IT READS IS OF BULK AT MOST 1048576: true; the input reads as it did. -/
def batchFairUptoRow : OpenClaim := { program := "ythlildgmjidllaa", sum := "044e5aafd87ae1c83e41aeb69ccd0c3b8dd0eebcfbedfbc55c84f951acf44bf2", func := "peloton/pelotonlaw22.BatchFair", spec := "batchFair", unfollowed := true, recurses := true, apart := false, narrowed := true }
def BatchFairUptoSaid : Prop := batchFairUptoRow.holds Try.pinned (OpenSpec.upto batchFairSpec)

/-- 'pelotonlaw22.BatchKeeps', WHERE WHAT IT READS IS OF BULK AT MOST 1048576: true; the input reads as it did. -/
def batchKeepsUptoRow : OpenClaim := { program := "ythlildgmjidllaa", sum := "044e5aafd87ae1c83e41aeb69ccd0c3b8dd0eebcfbedfbc55c84f951acf44bf2", func := "peloton/pelotonlaw22.BatchKeeps", spec := "batchKeeps", unfollowed := true, recurses := true, apart := false, narrowed := true }
def BatchKeepsUptoSaid : Prop := batchKeepsUptoRow.holds Try.pinned (OpenSpec.upto batchKeepsSpec)

/-- 'pelotonlaw22.BatchActs', WHERE WHAT IT READS IS OF BULK AT MOST 1048576: true; the input reads as it did. -/
def batchActsUptoRow : OpenClaim := { program := "ythlildgmjidllaa", sum := "044e5aafd87ae1c83e41aeb69ccd0c3b8dd0eebcfbedfbc55c84f951acf44bf2", func := "peloton/pelotonlaw22.BatchActs", spec := "batchActs", unfollowed := true, recurses := true, apart := false, narrowed := true }
def BatchActsUptoSaid : Prop := batchActsUptoRow.holds Try.pinned (OpenSpec.upto batchActsSpec)

end Rows
end Go.Proofs.Ythlildgmjidllaa
