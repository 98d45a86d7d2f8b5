/-
  No cell of these rows narrows 'for every input' (looked for: loops, veiled, ifaces, maps, wideKeys, modest, calm, conditions, laid).
  DERIVED. THE GIVEN ROWS OF THIS SEAT. 4 by the template 'for every input the law returns true; each argument reads behind the call as it read before'; 0 by the template 'total and deterministic' (their statements: YtdalpckomnkilaaTotals.lean).
  GIVEN WITH THE SEED: the statements are not yours to turn. If you find one false, say at which input.
  Laid BY PROGRAM, IN A SANDBOX (cutbox-rows.mjs): the forced cells as the released guide's own fill.sh prints them over the translation d7217b0de6e756ad… (all of the seat's roots in one cut). By AI agents, Wed Nov 11 2026. No macro, syntax, notation, axiom, sorry.
-/
import Derived.Test.YtdalpckomnkilaaChecked
import GoSem.Claim
import GoSem.ClaimJoined
import GoSem.ClaimMapViews
import Derived.JoinedTies
import Derived.KernelRfl
namespace Go.Proofs.Ytdalpckomnkilaa
/- THE CELL 'sum', in the pinned program and in every row, IS THE sha256 OF THE DUMP (.gsa) THAT YtdalpckomnkilaaProg.lean LOADS. Nothing in Lean hashes anything: it is a label: what it is worth is what the hold of that sum in a sandbox is worth. -/
noncomputable def Try.pinned : Pinned := { name := "ytdalpckomnkilaa", sum := "d7217b0de6e756adff937ceaed87a37a2092edd1695ff056e3726b43abc5f022", checked := Try.checked }
namespace Rows
def none {H : Type} : Left H := { results := [], args := [] }

/-- 'pelotonlaw12.CacheApart': WHATEVER THE INPUT: true; the input reads as it did. -/
def cacheApartSpec : ChangeSpec := { name := "cacheApart", fn := fun _ => fun
  | [d] => { results := [.lit (.bool true)], args := [d] }
  | _ => none }
def cacheApartRow : OpenClaim := { program := "ytdalpckomnkilaa", sum := "d7217b0de6e756adff937ceaed87a37a2092edd1695ff056e3726b43abc5f022", func := "peloton/pelotonlaw12.CacheApart", spec := "cacheApart", unfollowed := true, recurses := true, plainKeys := false, apart := false }
def CacheApartSaid : Prop := cacheApartRow.holds Try.pinned (OpenSpec.ofChange cacheApartSpec)

/-- ITS FALSE NEIGHBOUR: 'it returns false'. Refute it at one input. -/
def cacheApartWrong : ChangeSpec := { name := "cacheApart", fn := fun _ => fun
  | [d] => { results := [.lit (.bool false)], args := [d] }
  | _ => none }
def CacheApartWrongFalsely : Prop := cacheApartRow.holds Try.pinned (OpenSpec.ofChange cacheApartWrong)

/-- 'pelotonlaw12.CacheFills': WHATEVER THE INPUT: true; the input reads as it did. -/
def cacheFillsSpec : ChangeSpec := { name := "cacheFills", fn := fun _ => fun
  | [d1, d2, d3] => { results := [.lit (.bool true)], args := [d1, d2, d3] }
  | _ => none }
def cacheFillsRow : OpenClaim := { program := "ytdalpckomnkilaa", sum := "d7217b0de6e756adff937ceaed87a37a2092edd1695ff056e3726b43abc5f022", func := "peloton/pelotonlaw12.CacheFills", spec := "cacheFills", unfollowed := true, recurses := true, plainKeys := false, apart := false }
def CacheFillsSaid : Prop := cacheFillsRow.holds Try.pinned (OpenSpec.ofChange cacheFillsSpec)

/-- ITS FALSE NEIGHBOUR: 'it returns false'. Refute it at one input. -/
def cacheFillsWrong : ChangeSpec := { name := "cacheFills", fn := fun _ => fun
  | [d1, d2, d3] => { results := [.lit (.bool false)], args := [d1, d2, d3] }
  | _ => none }
def CacheFillsWrongFalsely : Prop := cacheFillsRow.holds Try.pinned (OpenSpec.ofChange cacheFillsWrong)

/-- 'pelotonlaw12.CacheStays': WHATEVER THE INPUT: true; the input reads as it did. -/
def cacheStaysSpec : ChangeSpec := { name := "cacheStays", fn := fun _ => fun
  | [d1, d2, d3] => { results := [.lit (.bool true)], args := [d1, d2, d3] }
  | _ => none }
def cacheStaysRow : OpenClaim := { program := "ytdalpckomnkilaa", sum := "d7217b0de6e756adff937ceaed87a37a2092edd1695ff056e3726b43abc5f022", func := "peloton/pelotonlaw12.CacheStays", spec := "cacheStays", unfollowed := true, recurses := true, plainKeys := false, apart := false }
def CacheStaysSaid : Prop := cacheStaysRow.holds Try.pinned (OpenSpec.ofChange cacheStaysSpec)

/-- ITS FALSE NEIGHBOUR: 'it returns false'. Refute it at one input. -/
def cacheStaysWrong : ChangeSpec := { name := "cacheStays", fn := fun _ => fun
  | [d1, d2, d3] => { results := [.lit (.bool false)], args := [d1, d2, d3] }
  | _ => none }
def CacheStaysWrongFalsely : Prop := cacheStaysRow.holds Try.pinned (OpenSpec.ofChange cacheStaysWrong)

/-- 'pelotonlaw12.CacheActs': WHATEVER THE INPUT: true; the input reads as it did. -/
def cacheActsSpec : ChangeSpec := { name := "cacheActs", fn := fun _ => fun
  | [d1, d2] => { results := [.lit (.bool true)], args := [d1, d2] }
  | _ => none }
def cacheActsRow : OpenClaim := { program := "ytdalpckomnkilaa", sum := "d7217b0de6e756adff937ceaed87a37a2092edd1695ff056e3726b43abc5f022", func := "peloton/pelotonlaw12.CacheActs", spec := "cacheActs", unfollowed := true, recurses := true, plainKeys := false, apart := false }
def CacheActsSaid : Prop := cacheActsRow.holds Try.pinned (OpenSpec.ofChange cacheActsSpec)

/-- ITS FALSE NEIGHBOUR: 'it returns false'. Refute it at one input. -/
def cacheActsWrong : ChangeSpec := { name := "cacheActs", fn := fun _ => fun
  | [d1, d2] => { results := [.lit (.bool false)], args := [d1, d2] }
  | _ => none }
def CacheActsWrongFalsely : Prop := cacheActsRow.holds Try.pinned (OpenSpec.ofChange cacheActsWrong)

/- THE SECOND FORM. 'bulk': how many values and letters a reading holds, each counted each time it is reached (what is shared counts as often as it is met; a slice's spare places count too). A statement '..UptoSaid' is the law's where the arguments, and the package variables that the reading takes, are together of bulk at most 1048576: NARROWER than '..Said'. Prove '..Said' where nothing that the law and all that it calls make is longer than what came in: it says more and counts as full. Else prove '..UptoSaid'. A law counts once. -/
mutual
def uptoBulk {H : Type} : DataW H → Nat
  | .lit (.string bytes) => bytes.length + 1
  | .lit _ => 1
  | .nil => 1
  | .ptr d => uptoBulk d + 1
  | .slice elems spare => uptoBulkAll elems + uptoBulkAll spare + 1
  | .agg parts => uptoBulkAll parts + 1
  | .iface _ d => uptoBulk d + 1
  | .map entries => uptoBulkEntries entries + 1
  | .held _ => 1
def uptoBulkAll {H : Type} : List (DataW H) → Nat
  | [] => 0
  | d :: r => uptoBulk d + uptoBulkAll r
def uptoBulkEntries {H : Type} : List (Lit × DataW H) → Nat
  | [] => 0
  | x :: r => uptoBulkEntry x + uptoBulkEntries r
def uptoBulkEntry {H : Type} : Lit × DataW H → Nat
  | (.string bytes, d) => bytes.length + uptoBulk d + 1
  | (_, d) => uptoBulk d + 1
 end
def uptoSmall : (H : Type) → List (DataW H) → Bool := fun _ ds => decide (uptoBulkAll ds ≤ 1048576)
def OpenSpec.upto (s : _root_.Go.ChangeSpec) : _root_.Go.OpenSpec := { _root_.Go.OpenSpec.ofChange s with cond := some uptoSmall }

/-- 'pelotonlaw12.CacheApart', WHERE WHAT IT READS IS OF BULK AT MOST 1048576: true; the input reads as it did. -/
def cacheApartUptoRow : OpenClaim := { program := "ytdalpckomnkilaa", sum := "d7217b0de6e756adff937ceaed87a37a2092edd1695ff056e3726b43abc5f022", func := "peloton/pelotonlaw12.CacheApart", spec := "cacheApart", unfollowed := true, recurses := true, plainKeys := false, apart := false, narrowed := true }
def CacheApartUptoSaid : Prop := cacheApartUptoRow.holds Try.pinned (OpenSpec.upto cacheApartSpec)

/-- 'pelotonlaw12.CacheFills', WHERE WHAT IT READS IS OF BULK AT MOST 1048576: true; the input reads as it did. -/
def cacheFillsUptoRow : OpenClaim := { program := "ytdalpckomnkilaa", sum := "d7217b0de6e756adff937ceaed87a37a2092edd1695ff056e3726b43abc5f022", func := "peloton/pelotonlaw12.CacheFills", spec := "cacheFills", unfollowed := true, recurses := true, plainKeys := false, apart := false, narrowed := true }
def CacheFillsUptoSaid : Prop := cacheFillsUptoRow.holds Try.pinned (OpenSpec.upto cacheFillsSpec)

/-- 'pelotonlaw12.CacheStays', WHERE WHAT IT READS IS OF BULK AT MOST 1048576: true; the input reads as it did. -/
def cacheStaysUptoRow : OpenClaim := { program := "ytdalpckomnkilaa", sum := "d7217b0de6e756adff937ceaed87a37a2092edd1695ff056e3726b43abc5f022", func := "peloton/pelotonlaw12.CacheStays", spec := "cacheStays", unfollowed := true, recurses := true, plainKeys := false, apart := false, narrowed := true }
def CacheStaysUptoSaid : Prop := cacheStaysUptoRow.holds Try.pinned (OpenSpec.upto cacheStaysSpec)

/-- 'pelotonlaw12.CacheActs', WHERE WHAT IT READS IS OF BULK AT MOST 1048576: true; the input reads as it did. -/
def cacheActsUptoRow : OpenClaim := { program := "ytdalpckomnkilaa", sum := "d7217b0de6e756adff937ceaed87a37a2092edd1695ff056e3726b43abc5f022", func := "peloton/pelotonlaw12.CacheActs", spec := "cacheActs", unfollowed := true, recurses := true, plainKeys := false, apart := false, narrowed := true }
def CacheActsUptoSaid : Prop := cacheActsUptoRow.holds Try.pinned (OpenSpec.upto cacheActsSpec)

end Rows
end Go.Proofs.Ytdalpckomnkilaa
