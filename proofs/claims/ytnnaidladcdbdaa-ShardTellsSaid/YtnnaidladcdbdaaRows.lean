/-
  No cell of these rows narrows 'for every input' (looked for: loops, veiled, ifaces, maps, wideKeys, modest, calm, conditions, laid).
  DERIVED. THE GIVEN ROWS OF THIS SEAT. 12 by the template 'for every input the law returns true; each argument reads behind the call as it read before'; 0 by the template 'total and deterministic' (their statements: YtnnaidladcdbdaaTotals.lean).
  GIVEN WITH THE SEED: the statements are not yours to turn. If you find one false, say at which input.
  Laid BY PROGRAM, IN A SANDBOX (cutbox-rows.mjs): the forced cells as the released guide's own fill.sh prints them over the translation 8d431d66cf545094… (all of the seat's roots in one cut). By AI agents, Wed Nov 11 2026. No macro, syntax, notation, axiom, sorry.
-/
import Derived.Test.YtnnaidladcdbdaaChecked
import GoSem.Claim
import GoSem.ClaimJoined
import GoSem.ClaimMapViews
import Derived.JoinedTies
import Derived.KernelRfl
namespace Go.Proofs.Ytnnaidladcdbdaa
/- THE CELL 'sum', in the pinned program and in every row, IS THE sha256 OF THE DUMP (.gsa) THAT YtnnaidladcdbdaaProg.lean LOADS. Nothing in Lean hashes anything: it is a label: what it is worth is what the hold of that sum in a sandbox is worth. -/
noncomputable def Try.pinned : Pinned := { name := "ytnnaidladcdbdaa", sum := "8d431d66cf545094ef59edc37ae7d736328932a27e7d4b31b4dd964976b75cb5", checked := Try.checked }
namespace Rows
def none {H : Type} : Left H := { results := [], args := [] }

/-- 'longcaselaw14.RecentTells': WHATEVER THE INPUT: true; the input reads as it did. -/
def recentTellsSpec : ChangeSpec := { name := "recentTells", fn := fun _ => fun
  | [d1, d2] => { results := [.lit (.bool true)], args := [d1, d2] }
  | _ => none }
def recentTellsRow : OpenClaim := { program := "ytnnaidladcdbdaa", sum := "8d431d66cf545094ef59edc37ae7d736328932a27e7d4b31b4dd964976b75cb5", func := "longcase/longcaselaw14.RecentTells", spec := "recentTells", plainKeys := false, apart := false }
def RecentTellsSaid : Prop := recentTellsRow.holds Try.pinned (OpenSpec.ofChange recentTellsSpec)

/-- ITS FALSE NEIGHBOUR: 'it returns false'. Refute it at one input. -/
def recentTellsWrong : ChangeSpec := { name := "recentTells", fn := fun _ => fun
  | [d1, d2] => { results := [.lit (.bool false)], args := [d1, d2] }
  | _ => none }
def RecentTellsWrongFalsely : Prop := recentTellsRow.holds Try.pinned (OpenSpec.ofChange recentTellsWrong)

/-- 'longcaselaw14.RecentRoom': WHATEVER THE INPUT: true; the input reads as it did. -/
def recentRoomSpec : ChangeSpec := { name := "recentRoom", fn := fun _ => fun
  | [d1, d2] => { results := [.lit (.bool true)], args := [d1, d2] }
  | _ => none }
def recentRoomRow : OpenClaim := { program := "ytnnaidladcdbdaa", sum := "8d431d66cf545094ef59edc37ae7d736328932a27e7d4b31b4dd964976b75cb5", func := "longcase/longcaselaw14.RecentRoom", spec := "recentRoom", plainKeys := false, apart := false }
def RecentRoomSaid : Prop := recentRoomRow.holds Try.pinned (OpenSpec.ofChange recentRoomSpec)

/-- ITS FALSE NEIGHBOUR: 'it returns false'. Refute it at one input. -/
def recentRoomWrong : ChangeSpec := { name := "recentRoom", fn := fun _ => fun
  | [d1, d2] => { results := [.lit (.bool false)], args := [d1, d2] }
  | _ => none }
def RecentRoomWrongFalsely : Prop := recentRoomRow.holds Try.pinned (OpenSpec.ofChange recentRoomWrong)

/-- 'longcaselaw14.RecentGone': WHATEVER THE INPUT: true; the input reads as it did. -/
def recentGoneSpec : ChangeSpec := { name := "recentGone", fn := fun _ => fun
  | [d1, d2] => { results := [.lit (.bool true)], args := [d1, d2] }
  | _ => none }
def recentGoneRow : OpenClaim := { program := "ytnnaidladcdbdaa", sum := "8d431d66cf545094ef59edc37ae7d736328932a27e7d4b31b4dd964976b75cb5", func := "longcase/longcaselaw14.RecentGone", spec := "recentGone", plainKeys := false, apart := false }
def RecentGoneSaid : Prop := recentGoneRow.holds Try.pinned (OpenSpec.ofChange recentGoneSpec)

/-- ITS FALSE NEIGHBOUR: 'it returns false'. Refute it at one input. -/
def recentGoneWrong : ChangeSpec := { name := "recentGone", fn := fun _ => fun
  | [d1, d2] => { results := [.lit (.bool false)], args := [d1, d2] }
  | _ => none }
def RecentGoneWrongFalsely : Prop := recentGoneRow.holds Try.pinned (OpenSpec.ofChange recentGoneWrong)

/-- 'longcaselaw14.RecentGets': WHATEVER THE INPUT: true; the input reads as it did. -/
def recentGetsSpec : ChangeSpec := { name := "recentGets", fn := fun _ => fun
  | [d1, d2] => { results := [.lit (.bool true)], args := [d1, d2] }
  | _ => none }
def recentGetsRow : OpenClaim := { program := "ytnnaidladcdbdaa", sum := "8d431d66cf545094ef59edc37ae7d736328932a27e7d4b31b4dd964976b75cb5", func := "longcase/longcaselaw14.RecentGets", spec := "recentGets", plainKeys := false, apart := false }
def RecentGetsSaid : Prop := recentGetsRow.holds Try.pinned (OpenSpec.ofChange recentGetsSpec)

/-- ITS FALSE NEIGHBOUR: 'it returns false'. Refute it at one input. -/
def recentGetsWrong : ChangeSpec := { name := "recentGets", fn := fun _ => fun
  | [d1, d2] => { results := [.lit (.bool false)], args := [d1, d2] }
  | _ => none }
def RecentGetsWrongFalsely : Prop := recentGetsRow.holds Try.pinned (OpenSpec.ofChange recentGetsWrong)

/-- 'longcaselaw14.RecentDrops': WHATEVER THE INPUT: true; the input reads as it did. -/
def recentDropsSpec : ChangeSpec := { name := "recentDrops", fn := fun _ => fun
  | [d1, d2] => { results := [.lit (.bool true)], args := [d1, d2] }
  | _ => none }
def recentDropsRow : OpenClaim := { program := "ytnnaidladcdbdaa", sum := "8d431d66cf545094ef59edc37ae7d736328932a27e7d4b31b4dd964976b75cb5", func := "longcase/longcaselaw14.RecentDrops", spec := "recentDrops", plainKeys := false, apart := false }
def RecentDropsSaid : Prop := recentDropsRow.holds Try.pinned (OpenSpec.ofChange recentDropsSpec)

/-- ITS FALSE NEIGHBOUR: 'it returns false'. Refute it at one input. -/
def recentDropsWrong : ChangeSpec := { name := "recentDrops", fn := fun _ => fun
  | [d1, d2] => { results := [.lit (.bool false)], args := [d1, d2] }
  | _ => none }
def RecentDropsWrongFalsely : Prop := recentDropsRow.holds Try.pinned (OpenSpec.ofChange recentDropsWrong)

/-- 'longcaselaw14.RecentPuts': WHATEVER THE INPUT: true; the input reads as it did. -/
def recentPutsSpec : ChangeSpec := { name := "recentPuts", fn := fun _ => fun
  | [d1, d2, d3] => { results := [.lit (.bool true)], args := [d1, d2, d3] }
  | _ => none }
def recentPutsRow : OpenClaim := { program := "ytnnaidladcdbdaa", sum := "8d431d66cf545094ef59edc37ae7d736328932a27e7d4b31b4dd964976b75cb5", func := "longcase/longcaselaw14.RecentPuts", spec := "recentPuts", plainKeys := false, apart := false }
def RecentPutsSaid : Prop := recentPutsRow.holds Try.pinned (OpenSpec.ofChange recentPutsSpec)

/-- ITS FALSE NEIGHBOUR: 'it returns false'. Refute it at one input. -/
def recentPutsWrong : ChangeSpec := { name := "recentPuts", fn := fun _ => fun
  | [d1, d2, d3] => { results := [.lit (.bool false)], args := [d1, d2, d3] }
  | _ => none }
def RecentPutsWrongFalsely : Prop := recentPutsRow.holds Try.pinned (OpenSpec.ofChange recentPutsWrong)

/-- 'longcaselaw15.ShardOnce': WHATEVER THE INPUT: true; the input reads as it did. -/
def shardOnceSpec : ChangeSpec := { name := "shardOnce", fn := fun _ => fun
  | [d1, d2, d3] => { results := [.lit (.bool true)], args := [d1, d2, d3] }
  | _ => none }
def shardOnceRow : OpenClaim := { program := "ytnnaidladcdbdaa", sum := "8d431d66cf545094ef59edc37ae7d736328932a27e7d4b31b4dd964976b75cb5", func := "longcase/longcaselaw15.ShardOnce", spec := "shardOnce", plainKeys := false, apart := false }
def ShardOnceSaid : Prop := shardOnceRow.holds Try.pinned (OpenSpec.ofChange shardOnceSpec)

/-- ITS FALSE NEIGHBOUR: 'it returns false'. Refute it at one input. -/
def shardOnceWrong : ChangeSpec := { name := "shardOnce", fn := fun _ => fun
  | [d1, d2, d3] => { results := [.lit (.bool false)], args := [d1, d2, d3] }
  | _ => none }
def ShardOnceWrongFalsely : Prop := shardOnceRow.holds Try.pinned (OpenSpec.ofChange shardOnceWrong)

/-- 'longcaselaw15.ShardOwn': WHATEVER THE INPUT: true; the input reads as it did. -/
def shardOwnSpec : ChangeSpec := { name := "shardOwn", fn := fun _ => fun
  | [d1, d2] => { results := [.lit (.bool true)], args := [d1, d2] }
  | _ => none }
def shardOwnRow : OpenClaim := { program := "ytnnaidladcdbdaa", sum := "8d431d66cf545094ef59edc37ae7d736328932a27e7d4b31b4dd964976b75cb5", func := "longcase/longcaselaw15.ShardOwn", spec := "shardOwn", plainKeys := false, apart := false }
def ShardOwnSaid : Prop := shardOwnRow.holds Try.pinned (OpenSpec.ofChange shardOwnSpec)

/-- ITS FALSE NEIGHBOUR: 'it returns false'. Refute it at one input. -/
def shardOwnWrong : ChangeSpec := { name := "shardOwn", fn := fun _ => fun
  | [d1, d2] => { results := [.lit (.bool false)], args := [d1, d2] }
  | _ => none }
def ShardOwnWrongFalsely : Prop := shardOwnRow.holds Try.pinned (OpenSpec.ofChange shardOwnWrong)

/-- 'longcaselaw15.ShardLeader': WHATEVER THE INPUT: true; the input reads as it did. -/
def shardLeaderSpec : ChangeSpec := { name := "shardLeader", fn := fun _ => fun
  | [d1, d2, d3] => { results := [.lit (.bool true)], args := [d1, d2, d3] }
  | _ => none }
def shardLeaderRow : OpenClaim := { program := "ytnnaidladcdbdaa", sum := "8d431d66cf545094ef59edc37ae7d736328932a27e7d4b31b4dd964976b75cb5", func := "longcase/longcaselaw15.ShardLeader", spec := "shardLeader", plainKeys := false, apart := false }
def ShardLeaderSaid : Prop := shardLeaderRow.holds Try.pinned (OpenSpec.ofChange shardLeaderSpec)

/-- ITS FALSE NEIGHBOUR: 'it returns false'. Refute it at one input. -/
def shardLeaderWrong : ChangeSpec := { name := "shardLeader", fn := fun _ => fun
  | [d1, d2, d3] => { results := [.lit (.bool false)], args := [d1, d2, d3] }
  | _ => none }
def ShardLeaderWrongFalsely : Prop := shardLeaderRow.holds Try.pinned (OpenSpec.ofChange shardLeaderWrong)

/-- 'longcaselaw15.ShardRoom': WHATEVER THE INPUT: true; the input reads as it did. -/
def shardRoomSpec : ChangeSpec := { name := "shardRoom", fn := fun _ => fun
  | [d1, d2] => { results := [.lit (.bool true)], args := [d1, d2] }
  | _ => none }
def shardRoomRow : OpenClaim := { program := "ytnnaidladcdbdaa", sum := "8d431d66cf545094ef59edc37ae7d736328932a27e7d4b31b4dd964976b75cb5", func := "longcase/longcaselaw15.ShardRoom", spec := "shardRoom", plainKeys := false, apart := false }
def ShardRoomSaid : Prop := shardRoomRow.holds Try.pinned (OpenSpec.ofChange shardRoomSpec)

/-- ITS FALSE NEIGHBOUR: 'it returns false'. Refute it at one input. -/
def shardRoomWrong : ChangeSpec := { name := "shardRoom", fn := fun _ => fun
  | [d1, d2] => { results := [.lit (.bool false)], args := [d1, d2] }
  | _ => none }
def ShardRoomWrongFalsely : Prop := shardRoomRow.holds Try.pinned (OpenSpec.ofChange shardRoomWrong)

/-- 'longcaselaw15.ShardPurge': WHATEVER THE INPUT: true; the input reads as it did. -/
def shardPurgeSpec : ChangeSpec := { name := "shardPurge", fn := fun _ => fun
  | [d1, d2] => { results := [.lit (.bool true)], args := [d1, d2] }
  | _ => none }
def shardPurgeRow : OpenClaim := { program := "ytnnaidladcdbdaa", sum := "8d431d66cf545094ef59edc37ae7d736328932a27e7d4b31b4dd964976b75cb5", func := "longcase/longcaselaw15.ShardPurge", spec := "shardPurge", plainKeys := false, apart := false }
def ShardPurgeSaid : Prop := shardPurgeRow.holds Try.pinned (OpenSpec.ofChange shardPurgeSpec)

/-- ITS FALSE NEIGHBOUR: 'it returns false'. Refute it at one input. -/
def shardPurgeWrong : ChangeSpec := { name := "shardPurge", fn := fun _ => fun
  | [d1, d2] => { results := [.lit (.bool false)], args := [d1, d2] }
  | _ => none }
def ShardPurgeWrongFalsely : Prop := shardPurgeRow.holds Try.pinned (OpenSpec.ofChange shardPurgeWrong)

/-- 'longcaselaw15.ShardTells': WHATEVER THE INPUT: true; the input reads as it did. -/
def shardTellsSpec : ChangeSpec := { name := "shardTells", fn := fun _ => fun
  | [d1, d2] => { results := [.lit (.bool true)], args := [d1, d2] }
  | _ => none }
def shardTellsRow : OpenClaim := { program := "ytnnaidladcdbdaa", sum := "8d431d66cf545094ef59edc37ae7d736328932a27e7d4b31b4dd964976b75cb5", func := "longcase/longcaselaw15.ShardTells", spec := "shardTells", plainKeys := false, apart := false }
def ShardTellsSaid : Prop := shardTellsRow.holds Try.pinned (OpenSpec.ofChange shardTellsSpec)

/-- ITS FALSE NEIGHBOUR: 'it returns false'. Refute it at one input. -/
def shardTellsWrong : ChangeSpec := { name := "shardTells", fn := fun _ => fun
  | [d1, d2] => { results := [.lit (.bool false)], args := [d1, d2] }
  | _ => none }
def ShardTellsWrongFalsely : Prop := shardTellsRow.holds Try.pinned (OpenSpec.ofChange shardTellsWrong)

/- THE SECOND FORM. 'bulk': how many values and letters a reading holds, each counted each time it is reached (what is shared counts as often as it is met; a slice's spare places count too). A statement '..UptoSaid' is the law's where the arguments, and the package variables that the reading takes, are together of bulk at most 1048576: NARROWER than '..Said'. Prove '..Said' where nothing that the law and all that it calls make is longer than what came in: it says more and counts as full. Else prove '..UptoSaid'. A law counts once. -/
mutual
def uptoBulk {H : Type} : DataW H → Nat
  | .lit (.string bytes) => bytes.length + 1
  | .lit _ => 1
  | .nil => 1
  | .ptr d => uptoBulk d + 1
  | .slice elems spare => uptoBulkAll elems + uptoBulkAll spare + 1
  | .agg parts => uptoBulkAll parts + 1
  | .iface _ d => uptoBulk d + 1
  | .map entries => uptoBulkEntries entries + 1
  | .held _ => 1
def uptoBulkAll {H : Type} : List (DataW H) → Nat
  | [] => 0
  | d :: r => uptoBulk d + uptoBulkAll r
def uptoBulkEntries {H : Type} : List (Lit × DataW H) → Nat
  | [] => 0
  | x :: r => uptoBulkEntry x + uptoBulkEntries r
def uptoBulkEntry {H : Type} : Lit × DataW H → Nat
  | (.string bytes, d) => bytes.length + uptoBulk d + 1
  | (_, d) => uptoBulk d + 1
 end
def uptoSmall : (H : Type) → List (DataW H) → Bool := fun _ ds => decide (uptoBulkAll ds ≤ 1048576)
def OpenSpec.upto (s : _root_.Go.ChangeSpec) : _root_.Go.OpenSpec := { _root_.Go.OpenSpec.ofChange s with cond := some uptoSmall }

/-- 'longcaselaw14.RecentTells', WHERE WHAT IT READS IS OF BULK AT MOST 1048576: true; the input reads as it did. -/
def recentTellsUptoRow : OpenClaim := { program := "ytnnaidladcdbdaa", sum := "8d431d66cf545094ef59edc37ae7d736328932a27e7d4b31b4dd964976b75cb5", func := "longcase/longcaselaw14.RecentTells", spec := "recentTells", plainKeys := false, apart := false, narrowed := true }
def RecentTellsUptoSaid : Prop := recentTellsUptoRow.holds Try.pinned (OpenSpec.upto recentTellsSpec)

/-- 'longcaselaw14.RecentRoom', WHERE WHAT IT READS IS OF BULK AT MOST 1048576: true; the input reads as it did. -/
def recentRoomUptoRow : OpenClaim := { program := "ytnnaidladcdbdaa", sum := "8d431d66cf545094ef59edc37ae7d736328932a27e7d4b31b4dd964976b75cb5", func := "longcase/longcaselaw14.RecentRoom", spec := "recentRoom", plainKeys := false, apart := false, narrowed := true }
def RecentRoomUptoSaid : Prop := recentRoomUptoRow.holds Try.pinned (OpenSpec.upto recentRoomSpec)

/-- 'longcaselaw14.RecentGone', WHERE WHAT IT READS IS OF BULK AT MOST 1048576: true; the input reads as it did. -/
def recentGoneUptoRow : OpenClaim := { program := "ytnnaidladcdbdaa", sum := "8d431d66cf545094ef59edc37ae7d736328932a27e7d4b31b4dd964976b75cb5", func := "longcase/longcaselaw14.RecentGone", spec := "recentGone", plainKeys := false, apart := false, narrowed := true }
def RecentGoneUptoSaid : Prop := recentGoneUptoRow.holds Try.pinned (OpenSpec.upto recentGoneSpec)

/-- 'longcaselaw14.RecentGets', WHERE WHAT IT READS IS OF BULK AT MOST 1048576: true; the input reads as it did. -/
def recentGetsUptoRow : OpenClaim := { program := "ytnnaidladcdbdaa", sum := "8d431d66cf545094ef59edc37ae7d736328932a27e7d4b31b4dd964976b75cb5", func := "longcase/longcaselaw14.RecentGets", spec := "recentGets", plainKeys := false, apart := false, narrowed := true }
def RecentGetsUptoSaid : Prop := recentGetsUptoRow.holds Try.pinned (OpenSpec.upto recentGetsSpec)

/-- 'longcaselaw14.RecentDrops', WHERE WHAT IT READS IS OF BULK AT MOST 1048576: true; the input reads as it did. -/
def recentDropsUptoRow : OpenClaim := { program := "ytnnaidladcdbdaa", sum := "8d431d66cf545094ef59edc37ae7d736328932a27e7d4b31b4dd964976b75cb5", func := "longcase/longcaselaw14.RecentDrops", spec := "recentDrops", plainKeys := false, apart := false, narrowed := true }
def RecentDropsUptoSaid : Prop := recentDropsUptoRow.holds Try.pinned (OpenSpec.upto recentDropsSpec)

/-- 'longcaselaw14.RecentPuts', WHERE WHAT IT READS IS OF BULK AT MOST 1048576: true; the input reads as it did. -/
def recentPutsUptoRow : OpenClaim := { program := "ytnnaidladcdbdaa", sum := "8d431d66cf545094ef59edc37ae7d736328932a27e7d4b31b4dd964976b75cb5", func := "longcase/longcaselaw14.RecentPuts", spec := "recentPuts", plainKeys := false, apart := false, narrowed := true }
def RecentPutsUptoSaid : Prop := recentPutsUptoRow.holds Try.pinned (OpenSpec.upto recentPutsSpec)

/-- 'longcaselaw15.ShardOnce', WHERE WHAT IT READS IS OF BULK AT MOST 1048576: true; the input reads as it did. -/
def shardOnceUptoRow : OpenClaim := { program := "ytnnaidladcdbdaa", sum := "8d431d66cf545094ef59edc37ae7d736328932a27e7d4b31b4dd964976b75cb5", func := "longcase/longcaselaw15.ShardOnce", spec := "shardOnce", plainKeys := false, apart := false, narrowed := true }
def ShardOnceUptoSaid : Prop := shardOnceUptoRow.holds Try.pinned (OpenSpec.upto shardOnceSpec)

/-- 'longcaselaw15.ShardOwn', WHERE WHAT IT READS IS OF BULK AT MOST 1048576: true; the input reads as it did. -/
def shardOwnUptoRow : OpenClaim := { program := "ytnnaidladcdbdaa", sum := "8d431d66cf545094ef59edc37ae7d736328932a27e7d4b31b4dd964976b75cb5", func := "longcase/longcaselaw15.ShardOwn", spec := "shardOwn", plainKeys := false, apart := false, narrowed := true }
def ShardOwnUptoSaid : Prop := shardOwnUptoRow.holds Try.pinned (OpenSpec.upto shardOwnSpec)

/-- 'longcaselaw15.ShardLeader', WHERE WHAT IT READS IS OF BULK AT MOST 1048576: true; the input reads as it did. -/
def shardLeaderUptoRow : OpenClaim := { program := "ytnnaidladcdbdaa", sum := "8d431d66cf545094ef59edc37ae7d736328932a27e7d4b31b4dd964976b75cb5", func := "longcase/longcaselaw15.ShardLeader", spec := "shardLeader", plainKeys := false, apart := false, narrowed := true }
def ShardLeaderUptoSaid : Prop := shardLeaderUptoRow.holds Try.pinned (OpenSpec.upto shardLeaderSpec)

/-- 'longcaselaw15.ShardRoom', WHERE WHAT IT READS IS OF BULK AT MOST 1048576: true; the input reads as it did. -/
def shardRoomUptoRow : OpenClaim := { program := "ytnnaidladcdbdaa", sum := "8d431d66cf545094ef59edc37ae7d736328932a27e7d4b31b4dd964976b75cb5", func := "longcase/longcaselaw15.ShardRoom", spec := "shardRoom", plainKeys := false, apart := false, narrowed := true }
def ShardRoomUptoSaid : Prop := shardRoomUptoRow.holds Try.pinned (OpenSpec.upto shardRoomSpec)

/-- 'longcaselaw15.ShardPurge', WHERE WHAT IT READS IS OF BULK AT MOST 1048576: true; the input reads as it did. -/
def shardPurgeUptoRow : OpenClaim := { program := "ytnnaidladcdbdaa", sum := "8d431d66cf545094ef59edc37ae7d736328932a27e7d4b31b4dd964976b75cb5", func := "longcase/longcaselaw15.ShardPurge", spec := "shardPurge", plainKeys := false, apart := false, narrowed := true }
def ShardPurgeUptoSaid : Prop := shardPurgeUptoRow.holds Try.pinned (OpenSpec.upto shardPurgeSpec)

/-- 'longcaselaw15.ShardTells', WHERE WHAT IT READS IS OF BULK AT MOST 1048576: true; the input reads as it did. -/
def shardTellsUptoRow : OpenClaim := { program := "ytnnaidladcdbdaa", sum := "8d431d66cf545094ef59edc37ae7d736328932a27e7d4b31b4dd964976b75cb5", func := "longcase/longcaselaw15.ShardTells", spec := "shardTells", plainKeys := false, apart := false, narrowed := true }
def ShardTellsUptoSaid : Prop := shardTellsUptoRow.holds Try.pinned (OpenSpec.upto shardTellsSpec)

end Rows
end Go.Proofs.Ytnnaidladcdbdaa
