/-
  No cell of these rows narrows 'for every input' (looked for: loops, veiled, ifaces, maps, wideKeys, modest, calm, conditions, laid).
  DERIVED. THE GIVEN ROWS OF THIS SEAT. 9 by the template 'for every input the law returns true; each argument reads behind the call as it read before'; 0 by the template 'total and deterministic' (their statements: YtgihcmeifafnjaaTotals.lean).
  GIVEN WITH THE SEED: the statements are not yours to turn. If you find one false, say at which input.
  Laid BY PROGRAM, IN A SANDBOX (cutbox-rows.mjs): the forced cells as the released guide's own fill.sh prints them over the translation 225b5539f3d312d6… (all of the seat's roots in one cut). By AI agents, Wed Nov 11 2026. No macro, syntax, notation, axiom, sorry.
-/
import Derived.Test.YtgihcmeifafnjaaChecked
import GoSem.Claim
import GoSem.ClaimJoined
import GoSem.ClaimMapViews
import Derived.JoinedTies
import Derived.KernelRfl
namespace Go.Proofs.Ytgihcmeifafnjaa
/- THE CELL 'sum', in the pinned program and in every row, IS THE sha256 OF THE DUMP (.gsa) THAT YtgihcmeifafnjaaProg.lean LOADS. Nothing in Lean hashes anything: it is a label: what it is worth is what the hold of that sum in a sandbox is worth. -/
noncomputable def Try.pinned : Pinned := { name := "ytgihcmeifafnjaa", sum := "225b5539f3d312d609f70b84507b62e652ce1cb09727c61fc278dae54e0a9a0b", checked := Try.checked }
namespace Rows
def none {H : Type} : Left H := { results := [], args := [] }

/-- 'awardingbodylaw02.StampCompares': WHATEVER THE INPUT: true; the input reads as it did. -/
def stampComparesSpec : ChangeSpec := { name := "stampCompares", fn := fun _ => fun
  | [d1, d2, d3, d4, d5, d6] => { results := [.lit (.bool true)], args := [d1, d2, d3, d4, d5, d6] }
  | _ => none }
def stampComparesRow : OpenClaim := { program := "ytgihcmeifafnjaa", sum := "225b5539f3d312d609f70b84507b62e652ce1cb09727c61fc278dae54e0a9a0b", func := "awardingbody/awardingbodylaw02.StampCompares", spec := "stampCompares", unfollowed := true, recurses := true, plainKeys := false, apart := false }
def StampComparesSaid : Prop := stampComparesRow.holds Try.pinned (OpenSpec.ofChange stampComparesSpec)

/-- ITS FALSE NEIGHBOUR: 'it returns false'. Refute it at one input. -/
def stampComparesWrong : ChangeSpec := { name := "stampCompares", fn := fun _ => fun
  | [d1, d2, d3, d4, d5, d6] => { results := [.lit (.bool false)], args := [d1, d2, d3, d4, d5, d6] }
  | _ => none }
def StampComparesWrongFalsely : Prop := stampComparesRow.holds Try.pinned (OpenSpec.ofChange stampComparesWrong)

/-- 'awardingbodylaw02.StampCanonical': WHATEVER THE INPUT: true; the input reads as it did. -/
def stampCanonicalSpec : ChangeSpec := { name := "stampCanonical", fn := fun _ => fun
  | [d1, d2] => { results := [.lit (.bool true)], args := [d1, d2] }
  | _ => none }
def stampCanonicalRow : OpenClaim := { program := "ytgihcmeifafnjaa", sum := "225b5539f3d312d609f70b84507b62e652ce1cb09727c61fc278dae54e0a9a0b", func := "awardingbody/awardingbodylaw02.StampCanonical", spec := "stampCanonical", unfollowed := true, recurses := true, plainKeys := false, apart := false }
def StampCanonicalSaid : Prop := stampCanonicalRow.holds Try.pinned (OpenSpec.ofChange stampCanonicalSpec)

/-- ITS FALSE NEIGHBOUR: 'it returns false'. Refute it at one input. -/
def stampCanonicalWrong : ChangeSpec := { name := "stampCanonical", fn := fun _ => fun
  | [d1, d2] => { results := [.lit (.bool false)], args := [d1, d2] }
  | _ => none }
def StampCanonicalWrongFalsely : Prop := stampCanonicalRow.holds Try.pinned (OpenSpec.ofChange stampCanonicalWrong)

/-- 'awardingbodylaw02.StampKnows': WHATEVER THE INPUT: true; the input reads as it did. -/
def stampKnowsSpec : ChangeSpec := { name := "stampKnows", fn := fun _ => fun
  | [d1, d2] => { results := [.lit (.bool true)], args := [d1, d2] }
  | _ => none }
def stampKnowsRow : OpenClaim := { program := "ytgihcmeifafnjaa", sum := "225b5539f3d312d609f70b84507b62e652ce1cb09727c61fc278dae54e0a9a0b", func := "awardingbody/awardingbodylaw02.StampKnows", spec := "stampKnows", unfollowed := true, recurses := true, plainKeys := false, apart := false }
def StampKnowsSaid : Prop := stampKnowsRow.holds Try.pinned (OpenSpec.ofChange stampKnowsSpec)

/-- ITS FALSE NEIGHBOUR: 'it returns false'. Refute it at one input. -/
def stampKnowsWrong : ChangeSpec := { name := "stampKnows", fn := fun _ => fun
  | [d1, d2] => { results := [.lit (.bool false)], args := [d1, d2] }
  | _ => none }
def StampKnowsWrongFalsely : Prop := stampKnowsRow.holds Try.pinned (OpenSpec.ofChange stampKnowsWrong)

/-- 'awardingbodylaw02.StampMany': WHATEVER THE INPUT: true; the input reads as it did. -/
def stampManySpec : ChangeSpec := { name := "stampMany", fn := fun _ => fun
  | [d1, d2] => { results := [.lit (.bool true)], args := [d1, d2] }
  | _ => none }
def stampManyRow : OpenClaim := { program := "ytgihcmeifafnjaa", sum := "225b5539f3d312d609f70b84507b62e652ce1cb09727c61fc278dae54e0a9a0b", func := "awardingbody/awardingbodylaw02.StampMany", spec := "stampMany", unfollowed := true, recurses := true, plainKeys := false, apart := false }
def StampManySaid : Prop := stampManyRow.holds Try.pinned (OpenSpec.ofChange stampManySpec)

/-- ITS FALSE NEIGHBOUR: 'it returns false'. Refute it at one input. -/
def stampManyWrong : ChangeSpec := { name := "stampMany", fn := fun _ => fun
  | [d1, d2] => { results := [.lit (.bool false)], args := [d1, d2] }
  | _ => none }
def StampManyWrongFalsely : Prop := stampManyRow.holds Try.pinned (OpenSpec.ofChange stampManyWrong)

/-- 'awardingbodylaw02.StampAnyOrder': WHATEVER THE INPUT: true; the input reads as it did. -/
def stampAnyOrderSpec : ChangeSpec := { name := "stampAnyOrder", fn := fun _ => fun
  | [d] => { results := [.lit (.bool true)], args := [d] }
  | _ => none }
def stampAnyOrderRow : OpenClaim := { program := "ytgihcmeifafnjaa", sum := "225b5539f3d312d609f70b84507b62e652ce1cb09727c61fc278dae54e0a9a0b", func := "awardingbody/awardingbodylaw02.StampAnyOrder", spec := "stampAnyOrder", unfollowed := true, recurses := true, plainKeys := false, apart := false }
def StampAnyOrderSaid : Prop := stampAnyOrderRow.holds Try.pinned (OpenSpec.ofChange stampAnyOrderSpec)

/-- ITS FALSE NEIGHBOUR: 'it returns false'. Refute it at one input. -/
def stampAnyOrderWrong : ChangeSpec := { name := "stampAnyOrder", fn := fun _ => fun
  | [d] => { results := [.lit (.bool false)], args := [d] }
  | _ => none }
def StampAnyOrderWrongFalsely : Prop := stampAnyOrderRow.holds Try.pinned (OpenSpec.ofChange stampAnyOrderWrong)

/-- 'awardingbodylaw02.StampTwice': WHATEVER THE INPUT: true; the input reads as it did. -/
def stampTwiceSpec : ChangeSpec := { name := "stampTwice", fn := fun _ => fun
  | [d] => { results := [.lit (.bool true)], args := [d] }
  | _ => none }
def stampTwiceRow : OpenClaim := { program := "ytgihcmeifafnjaa", sum := "225b5539f3d312d609f70b84507b62e652ce1cb09727c61fc278dae54e0a9a0b", func := "awardingbody/awardingbodylaw02.StampTwice", spec := "stampTwice", unfollowed := true, recurses := true, plainKeys := false, apart := false }
def StampTwiceSaid : Prop := stampTwiceRow.holds Try.pinned (OpenSpec.ofChange stampTwiceSpec)

/-- ITS FALSE NEIGHBOUR: 'it returns false'. Refute it at one input. -/
def stampTwiceWrong : ChangeSpec := { name := "stampTwice", fn := fun _ => fun
  | [d] => { results := [.lit (.bool false)], args := [d] }
  | _ => none }
def StampTwiceWrongFalsely : Prop := stampTwiceRow.holds Try.pinned (OpenSpec.ofChange stampTwiceWrong)

/-- 'awardingbodylaw02.StampUntil': WHATEVER THE INPUT: true; the input reads as it did. -/
def stampUntilSpec : ChangeSpec := { name := "stampUntil", fn := fun _ => fun
  | [d1, d2] => { results := [.lit (.bool true)], args := [d1, d2] }
  | _ => none }
def stampUntilRow : OpenClaim := { program := "ytgihcmeifafnjaa", sum := "225b5539f3d312d609f70b84507b62e652ce1cb09727c61fc278dae54e0a9a0b", func := "awardingbody/awardingbodylaw02.StampUntil", spec := "stampUntil", unfollowed := true, recurses := true, plainKeys := false, apart := false }
def StampUntilSaid : Prop := stampUntilRow.holds Try.pinned (OpenSpec.ofChange stampUntilSpec)

/-- ITS FALSE NEIGHBOUR: 'it returns false'. Refute it at one input. -/
def stampUntilWrong : ChangeSpec := { name := "stampUntil", fn := fun _ => fun
  | [d1, d2] => { results := [.lit (.bool false)], args := [d1, d2] }
  | _ => none }
def StampUntilWrongFalsely : Prop := stampUntilRow.holds Try.pinned (OpenSpec.ofChange stampUntilWrong)

/-- 'awardingbodylaw02.StampDisputes': WHATEVER THE INPUT: true; the input reads as it did. -/
def stampDisputesSpec : ChangeSpec := { name := "stampDisputes", fn := fun _ => fun
  | [d] => { results := [.lit (.bool true)], args := [d] }
  | _ => none }
def stampDisputesRow : OpenClaim := { program := "ytgihcmeifafnjaa", sum := "225b5539f3d312d609f70b84507b62e652ce1cb09727c61fc278dae54e0a9a0b", func := "awardingbody/awardingbodylaw02.StampDisputes", spec := "stampDisputes", unfollowed := true, recurses := true, plainKeys := false, apart := false }
def StampDisputesSaid : Prop := stampDisputesRow.holds Try.pinned (OpenSpec.ofChange stampDisputesSpec)

/-- ITS FALSE NEIGHBOUR: 'it returns false'. Refute it at one input. -/
def stampDisputesWrong : ChangeSpec := { name := "stampDisputes", fn := fun _ => fun
  | [d] => { results := [.lit (.bool false)], args := [d] }
  | _ => none }
def StampDisputesWrongFalsely : Prop := stampDisputesRow.holds Try.pinned (OpenSpec.ofChange stampDisputesWrong)

/-- 'awardingbodylaw02.StampGrows': WHATEVER THE INPUT: true; the input reads as it did. -/
def stampGrowsSpec : ChangeSpec := { name := "stampGrows", fn := fun _ => fun
  | [d] => { results := [.lit (.bool true)], args := [d] }
  | _ => none }
def stampGrowsRow : OpenClaim := { program := "ytgihcmeifafnjaa", sum := "225b5539f3d312d609f70b84507b62e652ce1cb09727c61fc278dae54e0a9a0b", func := "awardingbody/awardingbodylaw02.StampGrows", spec := "stampGrows", unfollowed := true, recurses := true, plainKeys := false, apart := false }
def StampGrowsSaid : Prop := stampGrowsRow.holds Try.pinned (OpenSpec.ofChange stampGrowsSpec)

/-- ITS FALSE NEIGHBOUR: 'it returns false'. Refute it at one input. -/
def stampGrowsWrong : ChangeSpec := { name := "stampGrows", fn := fun _ => fun
  | [d] => { results := [.lit (.bool false)], args := [d] }
  | _ => none }
def StampGrowsWrongFalsely : Prop := stampGrowsRow.holds Try.pinned (OpenSpec.ofChange stampGrowsWrong)

/- THE SECOND FORM. 'bulk': how many values and letters a reading holds, each counted each time it is reached (what is shared counts as often as it is met; a slice's spare places count too). A statement '..UptoSaid' is the law's where the arguments, and the package variables that the reading takes, are together of bulk at most 1048576: NARROWER than '..Said'. Prove '..Said' where nothing that the law and all that it calls make is longer than what came in: it says more and counts as full. Else prove '..UptoSaid'. A law counts once. -/
mutual
def uptoBulk {H : Type} : DataW H → Nat
  | .lit (.string bytes) => bytes.length + 1
  | .lit _ => 1
  | .nil => 1
  | .ptr d => uptoBulk d + 1
  | .slice elems spare => uptoBulkAll elems + uptoBulkAll spare + 1
  | .agg parts => uptoBulkAll parts + 1
  | .iface _ d => uptoBulk d + 1
  | .map entries => uptoBulkEntries entries + 1
  | .held _ => 1
def uptoBulkAll {H : Type} : List (DataW H) → Nat
  | [] => 0
  | d :: r => uptoBulk d + uptoBulkAll r
def uptoBulkEntries {H : Type} : List (Lit × DataW H) → Nat
  | [] => 0
  | x :: r => uptoBulkEntry x + uptoBulkEntries r
def uptoBulkEntry {H : Type} : Lit × DataW H → Nat
  | (.string bytes, d) => bytes.length + uptoBulk d + 1
  | (_, d) => uptoBulk d + 1
 end
def uptoSmall : (H : Type) → List (DataW H) → Bool := fun _ ds => decide (uptoBulkAll ds ≤ 1048576)
def OpenSpec.upto (s : _root_.Go.ChangeSpec) : _root_.Go.OpenSpec := { _root_.Go.OpenSpec.ofChange s with cond := some uptoSmall }

/-- 'awardingbodylaw02.StampCompares', WHERE WHAT IT READS IS OF BULK AT MOST 1048576: true; the input reads as it did. -/
def stampComparesUptoRow : OpenClaim := { program := "ytgihcmeifafnjaa", sum := "225b5539f3d312d609f70b84507b62e652ce1cb09727c61fc278dae54e0a9a0b", func := "awardingbody/awardingbodylaw02.StampCompares", spec := "stampCompares", unfollowed := true, recurses := true, plainKeys := false, apart := false, narrowed := true }
def StampComparesUptoSaid : Prop := stampComparesUptoRow.holds Try.pinned (OpenSpec.upto stampComparesSpec)

/-- 'awardingbodylaw02.StampCanonical', WHERE WHAT IT READS IS OF BULK AT MOST 1048576: true; the input reads as it did. -/
def stampCanonicalUptoRow : OpenClaim := { program := "ytgihcmeifafnjaa", sum := "225b5539f3d312d609f70b84507b62e652ce1cb09727c61fc278dae54e0a9a0b", func := "awardingbody/awardingbodylaw02.StampCanonical", spec := "stampCanonical", unfollowed := true, recurses := true, plainKeys := false, apart := false, narrowed := true }
def StampCanonicalUptoSaid : Prop := stampCanonicalUptoRow.holds Try.pinned (OpenSpec.upto stampCanonicalSpec)

/-- 'awardingbodylaw02.StampKnows', WHERE WHAT IT READS IS OF BULK AT MOST 1048576: true; the input reads as it did. -/
def stampKnowsUptoRow : OpenClaim := { program := "ytgihcmeifafnjaa", sum := "225b5539f3d312d609f70b84507b62e652ce1cb09727c61fc278dae54e0a9a0b", func := "awardingbody/awardingbodylaw02.StampKnows", spec := "stampKnows", unfollowed := true, recurses := true, plainKeys := false, apart := false, narrowed := true }
def StampKnowsUptoSaid : Prop := stampKnowsUptoRow.holds Try.pinned (OpenSpec.upto stampKnowsSpec)

/-- 'awardingbodylaw02.StampMany', WHERE WHAT IT READS IS OF BULK AT MOST 1048576: true; the input reads as it did. -/
def stampManyUptoRow : OpenClaim := { program := "ytgihcmeifafnjaa", sum := "225b5539f3d312d609f70b84507b62e652ce1cb09727c61fc278dae54e0a9a0b", func := "awardingbody/awardingbodylaw02.StampMany", spec := "stampMany", unfollowed := true, recurses := true, plainKeys := false, apart := false, narrowed := true }
def StampManyUptoSaid : Prop := stampManyUptoRow.holds Try.pinned (OpenSpec.upto stampManySpec)

/-- 'awardingbodylaw02.StampAnyOrder', WHERE WHAT IT READS IS OF BULK AT MOST 1048576: true; the input reads as it did. -/
def stampAnyOrderUptoRow : OpenClaim := { program := "ytgihcmeifafnjaa", sum := "225b5539f3d312d609f70b84507b62e652ce1cb09727c61fc278dae54e0a9a0b", func := "awardingbody/awardingbodylaw02.StampAnyOrder", spec := "stampAnyOrder", unfollowed := true, recurses := true, plainKeys := false, apart := false, narrowed := true }
def StampAnyOrderUptoSaid : Prop := stampAnyOrderUptoRow.holds Try.pinned (OpenSpec.upto stampAnyOrderSpec)

/-- 'awardingbodylaw02.StampTwice', WHERE WHAT IT READS IS OF BULK AT MOST 1048576: true; the input reads as it did. -/
def stampTwiceUptoRow : OpenClaim := { program := "ytgihcmeifafnjaa", sum := "225b5539f3d312d609f70b84507b62e652ce1cb09727c61fc278dae54e0a9a0b", func := "awardingbody/awardingbodylaw02.StampTwice", spec := "stampTwice", unfollowed := true, recurses := true, plainKeys := false, apart := false, narrowed := true }
def StampTwiceUptoSaid : Prop := stampTwiceUptoRow.holds Try.pinned (OpenSpec.upto stampTwiceSpec)

/-- 'awardingbodylaw02.StampUntil', WHERE WHAT IT READS IS OF BULK AT MOST 1048576: true; the input reads as it did. -/
def stampUntilUptoRow : OpenClaim := { program := "ytgihcmeifafnjaa", sum := "225b5539f3d312d609f70b84507b62e652ce1cb09727c61fc278dae54e0a9a0b", func := "awardingbody/awardingbodylaw02.StampUntil", spec := "stampUntil", unfollowed := true, recurses := true, plainKeys := false, apart := false, narrowed := true }
def StampUntilUptoSaid : Prop := stampUntilUptoRow.holds Try.pinned (OpenSpec.upto stampUntilSpec)

/-- 'awardingbodylaw02.StampDisputes', WHERE WHAT IT READS IS OF BULK AT MOST 1048576: true; the input reads as it did. -/
def stampDisputesUptoRow : OpenClaim := { program := "ytgihcmeifafnjaa", sum := "225b5539f3d312d609f70b84507b62e652ce1cb09727c61fc278dae54e0a9a0b", func := "awardingbody/awardingbodylaw02.StampDisputes", spec := "stampDisputes", unfollowed := true, recurses := true, plainKeys := false, apart := false, narrowed := true }
def StampDisputesUptoSaid : Prop := stampDisputesUptoRow.holds Try.pinned (OpenSpec.upto stampDisputesSpec)

/-- 'awardingbodylaw02.StampGrows', WHERE WHAT IT READS IS OF BULK AT MOST 1048576: true; the input reads as it did. -/
def stampGrowsUptoRow : OpenClaim := { program := "ytgihcmeifafnjaa", sum := "225b5539f3d312d609f70b84507b62e652ce1cb09727c61fc278dae54e0a9a0b", func := "awardingbody/awardingbodylaw02.StampGrows", spec := "stampGrows", unfollowed := true, recurses := true, plainKeys := false, apart := false, narrowed := true }
def StampGrowsUptoSaid : Prop := stampGrowsUptoRow.holds Try.pinned (OpenSpec.upto stampGrowsSpec)

end Rows
end Go.Proofs.Ytgihcmeifafnjaa
