/-
  No cell of these rows narrows 'for every input' (looked for: loops, veiled, ifaces, maps, wideKeys, modest, calm, conditions, laid).
  DERIVED. THE GIVEN ROWS OF THIS SEAT. 5 by the template 'for every input the law returns true; each argument reads behind the call as it read before'; 0 by the template 'total and deterministic' (their statements: YtlhnhhjpjkgogaaTotals.lean).
  GIVEN WITH THE SEED: the statements are not yours to turn. If you find one false, say at which input.
  Laid BY PROGRAM, IN A SANDBOX (cutbox-rows.mjs): the forced cells as the released guide's own fill.sh prints them over the translation 0e7ceade17b1f471… (all of the seat's roots in one cut). By AI agents, Wed Nov 11 2026. No macro, syntax, notation, axiom, sorry.
-/
import Derived.Test.YtlhnhhjpjkgogaaChecked
import GoSem.Claim
import GoSem.ClaimJoined
import GoSem.ClaimMapViews
import Derived.JoinedTies
import Derived.KernelRfl
namespace Go.Proofs.Ytlhnhhjpjkgogaa
/- THE CELL 'sum', in the pinned program and in every row, IS THE sha256 OF THE DUMP (.gsa) THAT YtlhnhhjpjkgogaaProg.lean LOADS. Nothing in Lean hashes anything: it is a label: what it is worth is what the hold of that sum in a sandbox is worth. -/
noncomputable def Try.pinned : Pinned := { name := "ytlhnhhjpjkgogaa", sum := "0e7ceade17b1f4714a5aa7714384cc3b4fde0d08ec43668c10293b2031029795", checked := Try.checked }
namespace Rows
def none {H : Type} : Left H := { results := [], args := [] }

/-- 'confluentlaw48.WalTorn': WHATEVER THE INPUT: true; the input reads as it did. -/
def walTornSpec : ChangeSpec := { name := "walTorn", fn := fun _ => fun
  | [d1, d2, d3] => { results := [.lit (.bool true)], args := [d1, d2, d3] }
  | _ => none }
def walTornRow : OpenClaim := { program := "ytlhnhhjpjkgogaa", sum := "0e7ceade17b1f4714a5aa7714384cc3b4fde0d08ec43668c10293b2031029795", func := "confluent/confluentlaw48.WalTorn", spec := "walTorn", inPlace := ["internal/abi.NoEscape", "internal/bytealg.MakeNoZero"], unfollowed := true, recurses := true, apart := false }
def WalTornSaid : Prop := walTornRow.holds Try.pinned (OpenSpec.ofChange walTornSpec)

/-- ITS FALSE NEIGHBOUR: 'it returns false'. Refute it at one input. -/
def walTornWrong : ChangeSpec := { name := "walTorn", fn := fun _ => fun
  | [d1, d2, d3] => { results := [.lit (.bool false)], args := [d1, d2, d3] }
  | _ => none }
def WalTornWrongFalsely : Prop := walTornRow.holds Try.pinned (OpenSpec.ofChange walTornWrong)

/-- 'confluentlaw48.WalBytes': WHATEVER THE INPUT: true; the input reads as it did. -/
def walBytesSpec : ChangeSpec := { name := "walBytes", fn := fun _ => fun
  | [d1, d2] => { results := [.lit (.bool true)], args := [d1, d2] }
  | _ => none }
def walBytesRow : OpenClaim := { program := "ytlhnhhjpjkgogaa", sum := "0e7ceade17b1f4714a5aa7714384cc3b4fde0d08ec43668c10293b2031029795", func := "confluent/confluentlaw48.WalBytes", spec := "walBytes", inPlace := ["internal/abi.NoEscape", "internal/bytealg.MakeNoZero"], unfollowed := true, recurses := true, apart := false }
def WalBytesSaid : Prop := walBytesRow.holds Try.pinned (OpenSpec.ofChange walBytesSpec)

/-- ITS FALSE NEIGHBOUR: 'it returns false'. Refute it at one input. -/
def walBytesWrong : ChangeSpec := { name := "walBytes", fn := fun _ => fun
  | [d1, d2] => { results := [.lit (.bool false)], args := [d1, d2] }
  | _ => none }
def WalBytesWrongFalsely : Prop := walBytesRow.holds Try.pinned (OpenSpec.ofChange walBytesWrong)

/-- 'confluentlaw48.WalRecovers': WHATEVER THE INPUT: true; the input reads as it did. -/
def walRecoversSpec : ChangeSpec := { name := "walRecovers", fn := fun _ => fun
  | [d1, d2, d3] => { results := [.lit (.bool true)], args := [d1, d2, d3] }
  | _ => none }
def walRecoversRow : OpenClaim := { program := "ytlhnhhjpjkgogaa", sum := "0e7ceade17b1f4714a5aa7714384cc3b4fde0d08ec43668c10293b2031029795", func := "confluent/confluentlaw48.WalRecovers", spec := "walRecovers", inPlace := ["internal/abi.NoEscape", "internal/bytealg.MakeNoZero"], unfollowed := true, recurses := true, apart := false }
def WalRecoversSaid : Prop := walRecoversRow.holds Try.pinned (OpenSpec.ofChange walRecoversSpec)

/-- ITS FALSE NEIGHBOUR: 'it returns false'. Refute it at one input. -/
def walRecoversWrong : ChangeSpec := { name := "walRecovers", fn := fun _ => fun
  | [d1, d2, d3] => { results := [.lit (.bool false)], args := [d1, d2, d3] }
  | _ => none }
def WalRecoversWrongFalsely : Prop := walRecoversRow.holds Try.pinned (OpenSpec.ofChange walRecoversWrong)

/-- 'confluentlaw48.WalSynced': WHATEVER THE INPUT: true; the input reads as it did. -/
def walSyncedSpec : ChangeSpec := { name := "walSynced", fn := fun _ => fun
  | [d1, d2, d3, d4] => { results := [.lit (.bool true)], args := [d1, d2, d3, d4] }
  | _ => none }
def walSyncedRow : OpenClaim := { program := "ytlhnhhjpjkgogaa", sum := "0e7ceade17b1f4714a5aa7714384cc3b4fde0d08ec43668c10293b2031029795", func := "confluent/confluentlaw48.WalSynced", spec := "walSynced", inPlace := ["internal/abi.NoEscape", "internal/bytealg.MakeNoZero"], unfollowed := true, recurses := true, apart := false }
def WalSyncedSaid : Prop := walSyncedRow.holds Try.pinned (OpenSpec.ofChange walSyncedSpec)

/-- ITS FALSE NEIGHBOUR: 'it returns false'. Refute it at one input. -/
def walSyncedWrong : ChangeSpec := { name := "walSynced", fn := fun _ => fun
  | [d1, d2, d3, d4] => { results := [.lit (.bool false)], args := [d1, d2, d3, d4] }
  | _ => none }
def WalSyncedWrongFalsely : Prop := walSyncedRow.holds Try.pinned (OpenSpec.ofChange walSyncedWrong)

/-- 'confluentlaw48.WalAtomic': WHATEVER THE INPUT: true; the input reads as it did. -/
def walAtomicSpec : ChangeSpec := { name := "walAtomic", fn := fun _ => fun
  | [d1, d2, d3, d4, d5, d6] => { results := [.lit (.bool true)], args := [d1, d2, d3, d4, d5, d6] }
  | _ => none }
def walAtomicRow : OpenClaim := { program := "ytlhnhhjpjkgogaa", sum := "0e7ceade17b1f4714a5aa7714384cc3b4fde0d08ec43668c10293b2031029795", func := "confluent/confluentlaw48.WalAtomic", spec := "walAtomic", inPlace := ["internal/abi.NoEscape", "internal/bytealg.MakeNoZero"], unfollowed := true, recurses := true, apart := false }
def WalAtomicSaid : Prop := walAtomicRow.holds Try.pinned (OpenSpec.ofChange walAtomicSpec)

/-- ITS FALSE NEIGHBOUR: 'it returns false'. Refute it at one input. -/
def walAtomicWrong : ChangeSpec := { name := "walAtomic", fn := fun _ => fun
  | [d1, d2, d3, d4, d5, d6] => { results := [.lit (.bool false)], args := [d1, d2, d3, d4, d5, d6] }
  | _ => none }
def WalAtomicWrongFalsely : Prop := walAtomicRow.holds Try.pinned (OpenSpec.ofChange walAtomicWrong)

/- THE SECOND FORM. 'bulk': how many values and letters a reading holds, each counted each time it is reached (what is shared counts as often as it is met; a slice's spare places count too). A statement '..UptoSaid' is the law's where the arguments, and the package variables that the reading takes, are together of bulk at most 1048576: NARROWER than '..Said'. Prove '..Said' where nothing that the law and all that it calls make is longer than what came in: it says more and counts as full. Else prove '..UptoSaid'. A law counts once. -/
mutual
def uptoBulk {H : Type} : DataW H → Nat
  | .lit (.string bytes) => bytes.length + 1
  | .lit _ => 1
  | .nil => 1
  | .ptr d => uptoBulk d + 1
  | .slice elems spare => uptoBulkAll elems + uptoBulkAll spare + 1
  | .agg parts => uptoBulkAll parts + 1
  | .iface _ d => uptoBulk d + 1
  | .map entries => uptoBulkEntries entries + 1
  | .held _ => 1
def uptoBulkAll {H : Type} : List (DataW H) → Nat
  | [] => 0
  | d :: r => uptoBulk d + uptoBulkAll r
def uptoBulkEntries {H : Type} : List (Lit × DataW H) → Nat
  | [] => 0
  | x :: r => uptoBulkEntry x + uptoBulkEntries r
def uptoBulkEntry {H : Type} : Lit × DataW H → Nat
  | (.string bytes, d) => bytes.length + uptoBulk d + 1
  | (_, d) => uptoBulk d + 1
 end
def uptoSmall : (H : Type) → List (DataW H) → Bool := fun _ ds => decide (uptoBulkAll ds ≤ 1048576)
def OpenSpec.upto (s : _root_.Go.ChangeSpec) : _root_.Go.OpenSpec := { _root_.Go.OpenSpec.ofChange s with cond := some uptoSmall }

/-- 'confluentlaw48.WalTorn', WHERE WHAT IT READS IS OF BULK AT MOST 1048576: true; the input reads as it did. -/
def walTornUptoRow : OpenClaim := { program := "ytlhnhhjpjkgogaa", sum := "0e7ceade17b1f4714a5aa7714384cc3b4fde0d08ec43668c10293b2031029795", func := "confluent/confluentlaw48.WalTorn", spec := "walTorn", inPlace := ["internal/abi.NoEscape", "internal/bytealg.MakeNoZero"], unfollowed := true, recurses := true, apart := false, narrowed := true }
def WalTornUptoSaid : Prop := walTornUptoRow.holds Try.pinned (OpenSpec.upto walTornSpec)

/-- 'confluentlaw48.WalBytes', WHERE WHAT IT READS IS OF BULK AT MOST 1048576: true; the input reads as it did. -/
def walBytesUptoRow : OpenClaim := { program := "ytlhnhhjpjkgogaa", sum := "0e7ceade17b1f4714a5aa7714384cc3b4fde0d08ec43668c10293b2031029795", func := "confluent/confluentlaw48.WalBytes", spec := "walBytes", inPlace := ["internal/abi.NoEscape", "internal/bytealg.MakeNoZero"], unfollowed := true, recurses := true, apart := false, narrowed := true }
def WalBytesUptoSaid : Prop := walBytesUptoRow.holds Try.pinned (OpenSpec.upto walBytesSpec)

/-- 'confluentlaw48.WalRecovers', WHERE WHAT IT READS IS OF BULK AT MOST 1048576: true; the input reads as it did. -/
def walRecoversUptoRow : OpenClaim := { program := "ytlhnhhjpjkgogaa", sum := "0e7ceade17b1f4714a5aa7714384cc3b4fde0d08ec43668c10293b2031029795", func := "confluent/confluentlaw48.WalRecovers", spec := "walRecovers", inPlace := ["internal/abi.NoEscape", "internal/bytealg.MakeNoZero"], unfollowed := true, recurses := true, apart := false, narrowed := true }
def WalRecoversUptoSaid : Prop := walRecoversUptoRow.holds Try.pinned (OpenSpec.upto walRecoversSpec)

/-- 'confluentlaw48.WalSynced', WHERE WHAT IT READS IS OF BULK AT MOST 1048576: true; the input reads as it did. -/
def walSyncedUptoRow : OpenClaim := { program := "ytlhnhhjpjkgogaa", sum := "0e7ceade17b1f4714a5aa7714384cc3b4fde0d08ec43668c10293b2031029795", func := "confluent/confluentlaw48.WalSynced", spec := "walSynced", inPlace := ["internal/abi.NoEscape", "internal/bytealg.MakeNoZero"], unfollowed := true, recurses := true, apart := false, narrowed := true }
def WalSyncedUptoSaid : Prop := walSyncedUptoRow.holds Try.pinned (OpenSpec.upto walSyncedSpec)

/-- 'confluentlaw48.WalAtomic', WHERE WHAT IT READS IS OF BULK AT MOST 1048576: true; the input reads as it did. -/
def walAtomicUptoRow : OpenClaim := { program := "ytlhnhhjpjkgogaa", sum := "0e7ceade17b1f4714a5aa7714384cc3b4fde0d08ec43668c10293b2031029795", func := "confluent/confluentlaw48.WalAtomic", spec := "walAtomic", inPlace := ["internal/abi.NoEscape", "internal/bytealg.MakeNoZero"], unfollowed := true, recurses := true, apart := false, narrowed := true }
def WalAtomicUptoSaid : Prop := walAtomicUptoRow.holds Try.pinned (OpenSpec.upto walAtomicSpec)

end Rows
end Go.Proofs.Ytlhnhhjpjkgogaa
