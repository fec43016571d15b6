/-
  NARROWER THAN 'FOR EVERY INPUT', by the rows' own cells (each row's printed sentence says how): ItemApart: loops · ItemShows: loops.
  DERIVED. THE GIVEN ROWS OF THIS SEAT. 5 by the template 'for every input the law returns true; each argument reads behind the call as it read before'; 0 by the template 'total and deterministic' (their statements: YtkdkdjhdoplicaaTotals.lean).
  GIVEN WITH THE SEED: the statements are not yours to turn. If you find one false, say at which input.
  Laid BY PROGRAM, IN A SANDBOX (cutbox-rows.mjs): the forced cells as the released guide's own fill.sh prints them over the translation 0f37bc03019eb9da… (all of the seat's roots in one cut). By AI agents, Wed Nov 11 2026. No macro, syntax, notation, axiom, sorry.
-/
import Derived.Test.YtkdkdjhdoplicaaChecked
import GoSem.Claim
import GoSem.ClaimJoined
import GoSem.ClaimMapViews
import Derived.JoinedTies
import Derived.KernelRfl
namespace Go.Proofs.Ytkdkdjhdoplicaa
/- THE CELL 'sum', in the pinned program and in every row, IS THE sha256 OF THE DUMP (.gsa) THAT YtkdkdjhdoplicaaProg.lean LOADS. Nothing in Lean hashes anything: it is a label: what it is worth is what the hold of that sum in a sandbox is worth. -/
noncomputable def Try.pinned : Pinned := { name := "ytkdkdjhdoplicaa", sum := "0f37bc03019eb9da264f5c88be0ddcddfc86f5a6b547c3d9412e465defe27461", checked := Try.checked }
namespace Rows
def none {H : Type} : Left H := { results := [], args := [] }

/-- 'hatchwaylaw07.MeterSums': WHATEVER THE INPUT: true; the input reads as it did. -/
def meterSumsSpec : ChangeSpec := { name := "meterSums", fn := fun _ => fun
  | [d1, d2] => { results := [.lit (.bool true)], args := [d1, d2] }
  | _ => none }
def meterSumsRow : OpenClaim := { program := "ytkdkdjhdoplicaa", sum := "0f37bc03019eb9da264f5c88be0ddcddfc86f5a6b547c3d9412e465defe27461", func := "hatchway/hatchwaylaw07.MeterSums", spec := "meterSums", unfollowed := true, recurses := true, apart := false }
def MeterSumsSaid : Prop := meterSumsRow.holds Try.pinned (OpenSpec.ofChange meterSumsSpec)

/-- ITS FALSE NEIGHBOUR: 'it returns false'. Refute it at one input. -/
def meterSumsWrong : ChangeSpec := { name := "meterSums", fn := fun _ => fun
  | [d1, d2] => { results := [.lit (.bool false)], args := [d1, d2] }
  | _ => none }
def MeterSumsWrongFalsely : Prop := meterSumsRow.holds Try.pinned (OpenSpec.ofChange meterSumsWrong)

/-- 'hatchwaylaw07.MeterPlays': WHATEVER THE INPUT: true; the input reads as it did. -/
def meterPlaysSpec : ChangeSpec := { name := "meterPlays", fn := fun _ => fun
  | [d1, d2] => { results := [.lit (.bool true)], args := [d1, d2] }
  | _ => none }
def meterPlaysRow : OpenClaim := { program := "ytkdkdjhdoplicaa", sum := "0f37bc03019eb9da264f5c88be0ddcddfc86f5a6b547c3d9412e465defe27461", func := "hatchway/hatchwaylaw07.MeterPlays", spec := "meterPlays", unfollowed := true, recurses := true, apart := false }
def MeterPlaysSaid : Prop := meterPlaysRow.holds Try.pinned (OpenSpec.ofChange meterPlaysSpec)

/-- ITS FALSE NEIGHBOUR: 'it returns false'. Refute it at one input. -/
def meterPlaysWrong : ChangeSpec := { name := "meterPlays", fn := fun _ => fun
  | [d1, d2] => { results := [.lit (.bool false)], args := [d1, d2] }
  | _ => none }
def MeterPlaysWrongFalsely : Prop := meterPlaysRow.holds Try.pinned (OpenSpec.ofChange meterPlaysWrong)

/-- 'hatchwaylaw08.ItemApart': WHATEVER THE INPUT: true; the input reads as it did. -/
def itemApartSpec : ChangeSpec := { name := "itemApart", fn := fun _ => fun
  | [d] => { results := [.lit (.bool true)], args := [d] }
  | _ => none }
def itemApartRow : OpenClaim := { program := "ytkdkdjhdoplicaa", sum := "0f37bc03019eb9da264f5c88be0ddcddfc86f5a6b547c3d9412e465defe27461", func := "hatchway/hatchwaylaw08.ItemApart", spec := "itemApart", inPlace := ["internal/abi.NoEscape"], unfollowed := true, recurses := true, loops := true, apart := false }
def ItemApartSaid : Prop := itemApartRow.holds Try.pinned (OpenSpec.ofChange itemApartSpec)

/-- ITS FALSE NEIGHBOUR: 'it returns false'. Refute it at one input. -/
def itemApartWrong : ChangeSpec := { name := "itemApart", fn := fun _ => fun
  | [d] => { results := [.lit (.bool false)], args := [d] }
  | _ => none }
def ItemApartWrongFalsely : Prop := itemApartRow.holds Try.pinned (OpenSpec.ofChange itemApartWrong)

/-- 'hatchwaylaw08.ItemShows': WHATEVER THE INPUT: true; the input reads as it did. -/
def itemShowsSpec : ChangeSpec := { name := "itemShows", fn := fun _ => fun
  | [d] => { results := [.lit (.bool true)], args := [d] }
  | _ => none }
def itemShowsRow : OpenClaim := { program := "ytkdkdjhdoplicaa", sum := "0f37bc03019eb9da264f5c88be0ddcddfc86f5a6b547c3d9412e465defe27461", func := "hatchway/hatchwaylaw08.ItemShows", spec := "itemShows", inPlace := ["internal/abi.NoEscape", "internal/bytealg.IndexByteString"], unfollowed := true, recurses := true, loops := true, apart := false }
def ItemShowsSaid : Prop := itemShowsRow.holds Try.pinned (OpenSpec.ofChange itemShowsSpec)

/-- ITS FALSE NEIGHBOUR: 'it returns false'. Refute it at one input. -/
def itemShowsWrong : ChangeSpec := { name := "itemShows", fn := fun _ => fun
  | [d] => { results := [.lit (.bool false)], args := [d] }
  | _ => none }
def ItemShowsWrongFalsely : Prop := itemShowsRow.holds Try.pinned (OpenSpec.ofChange itemShowsWrong)

/-- 'hatchwaylaw08.ItemReads': WHATEVER THE INPUT: true; the input reads as it did. -/
def itemReadsSpec : ChangeSpec := { name := "itemReads", fn := fun _ => fun
  | [d] => { results := [.lit (.bool true)], args := [d] }
  | _ => none }
def itemReadsRow : OpenClaim := { program := "ytkdkdjhdoplicaa", sum := "0f37bc03019eb9da264f5c88be0ddcddfc86f5a6b547c3d9412e465defe27461", func := "hatchway/hatchwaylaw08.ItemReads", spec := "itemReads", inPlace := ["internal/abi.NoEscape", "internal/bytealg.IndexByteString"], unfollowed := true, recurses := true, apart := false }
def ItemReadsSaid : Prop := itemReadsRow.holds Try.pinned (OpenSpec.ofChange itemReadsSpec)

/-- ITS FALSE NEIGHBOUR: 'it returns false'. Refute it at one input. -/
def itemReadsWrong : ChangeSpec := { name := "itemReads", fn := fun _ => fun
  | [d] => { results := [.lit (.bool false)], args := [d] }
  | _ => none }
def ItemReadsWrongFalsely : Prop := itemReadsRow.holds Try.pinned (OpenSpec.ofChange itemReadsWrong)

/- THE SECOND FORM. 'bulk': how many values and letters a reading holds, each counted each time it is reached (what is shared counts as often as it is met; a slice's spare places count too). A statement '..UptoSaid' is the law's where the arguments, and the package variables that the reading takes, are together of bulk at most 1048576: NARROWER than '..Said'. Prove '..Said' where nothing that the law and all that it calls make is longer than what came in: it says more and counts as full. Else prove '..UptoSaid'. A law counts once. -/
mutual
def uptoBulk {H : Type} : DataW H → Nat
  | .lit (.string bytes) => bytes.length + 1
  | .lit _ => 1
  | .nil => 1
  | .ptr d => uptoBulk d + 1
  | .slice elems spare => uptoBulkAll elems + uptoBulkAll spare + 1
  | .agg parts => uptoBulkAll parts + 1
  | .iface _ d => uptoBulk d + 1
  | .map entries => uptoBulkEntries entries + 1
  | .held _ => 1
def uptoBulkAll {H : Type} : List (DataW H) → Nat
  | [] => 0
  | d :: r => uptoBulk d + uptoBulkAll r
def uptoBulkEntries {H : Type} : List (Lit × DataW H) → Nat
  | [] => 0
  | x :: r => uptoBulkEntry x + uptoBulkEntries r
def uptoBulkEntry {H : Type} : Lit × DataW H → Nat
  | (.string bytes, d) => bytes.length + uptoBulk d + 1
  | (_, d) => uptoBulk d + 1
 end
def uptoSmall : (H : Type) → List (DataW H) → Bool := fun _ ds => decide (uptoBulkAll ds ≤ 1048576)
def OpenSpec.upto (s : _root_.Go.ChangeSpec) : _root_.Go.OpenSpec := { _root_.Go.OpenSpec.ofChange s with cond := some uptoSmall }

/-- 'hatchwaylaw07.MeterSums', WHERE WHAT IT READS IS OF BULK AT MOST 1048576: true; the input reads as it did. -/
def meterSumsUptoRow : OpenClaim := { program := "ytkdkdjhdoplicaa", sum := "0f37bc03019eb9da264f5c88be0ddcddfc86f5a6b547c3d9412e465defe27461", func := "hatchway/hatchwaylaw07.MeterSums", spec := "meterSums", unfollowed := true, recurses := true, apart := false, narrowed := true }
def MeterSumsUptoSaid : Prop := meterSumsUptoRow.holds Try.pinned (OpenSpec.upto meterSumsSpec)

/-- 'hatchwaylaw07.MeterPlays', WHERE WHAT IT READS IS OF BULK AT MOST 1048576: true; the input reads as it did. -/
def meterPlaysUptoRow : OpenClaim := { program := "ytkdkdjhdoplicaa", sum := "0f37bc03019eb9da264f5c88be0ddcddfc86f5a6b547c3d9412e465defe27461", func := "hatchway/hatchwaylaw07.MeterPlays", spec := "meterPlays", unfollowed := true, recurses := true, apart := false, narrowed := true }
def MeterPlaysUptoSaid : Prop := meterPlaysUptoRow.holds Try.pinned (OpenSpec.upto meterPlaysSpec)

/-- 'hatchwaylaw08.ItemApart', WHERE WHAT IT READS IS OF BULK AT MOST 1048576: true; the input reads as it did. -/
def itemApartUptoRow : OpenClaim := { program := "ytkdkdjhdoplicaa", sum := "0f37bc03019eb9da264f5c88be0ddcddfc86f5a6b547c3d9412e465defe27461", func := "hatchway/hatchwaylaw08.ItemApart", spec := "itemApart", inPlace := ["internal/abi.NoEscape"], unfollowed := true, recurses := true, loops := true, apart := false, narrowed := true }
def ItemApartUptoSaid : Prop := itemApartUptoRow.holds Try.pinned (OpenSpec.upto itemApartSpec)

/-- 'hatchwaylaw08.ItemShows', WHERE WHAT IT READS IS OF BULK AT MOST 1048576: true; the input reads as it did. -/
def itemShowsUptoRow : OpenClaim := { program := "ytkdkdjhdoplicaa", sum := "0f37bc03019eb9da264f5c88be0ddcddfc86f5a6b547c3d9412e465defe27461", func := "hatchway/hatchwaylaw08.ItemShows", spec := "itemShows", inPlace := ["internal/abi.NoEscape", "internal/bytealg.IndexByteString"], unfollowed := true, recurses := true, loops := true, apart := false, narrowed := true }
def ItemShowsUptoSaid : Prop := itemShowsUptoRow.holds Try.pinned (OpenSpec.upto itemShowsSpec)

/-- 'hatchwaylaw08.ItemReads', WHERE WHAT IT READS IS OF BULK AT MOST 1048576: true; the input reads as it did. -/
def itemReadsUptoRow : OpenClaim := { program := "ytkdkdjhdoplicaa", sum := "0f37bc03019eb9da264f5c88be0ddcddfc86f5a6b547c3d9412e465defe27461", func := "hatchway/hatchwaylaw08.ItemReads", spec := "itemReads", inPlace := ["internal/abi.NoEscape", "internal/bytealg.IndexByteString"], unfollowed := true, recurses := true, apart := false, narrowed := true }
def ItemReadsUptoSaid : Prop := itemReadsUptoRow.holds Try.pinned (OpenSpec.upto itemReadsSpec)

end Rows
end Go.Proofs.Ytkdkdjhdoplicaa
