/-
  No cell of these rows narrows 'for every input' (looked for: loops, veiled, ifaces, maps, wideKeys, modest, calm, conditions, laid).
  DERIVED. THE GIVEN ROWS OF THIS SEAT. 11 by the template 'for every input the law returns true; each argument reads behind the call as it read before'; 0 by the template 'total and deterministic' (their statements: YtpceignbgnekmaaTotals.lean).
  GIVEN WITH THE SEED: the statements are not yours to turn. If you find one false, say at which input.
  Laid BY PROGRAM, IN A SANDBOX (cutbox-rows.mjs): the forced cells as the released guide's own fill.sh prints them over the translation bbfa6bac67a3cdc2… (all of the seat's roots in one cut). By AI agents, Wed Nov 11 2026. No macro, syntax, notation, axiom, sorry.
-/
import Derived.Test.YtpceignbgnekmaaChecked
import GoSem.Claim
import GoSem.ClaimJoined
import GoSem.ClaimMapViews
import Derived.JoinedTies
import Derived.KernelRfl
namespace Go.Proofs.Ytpceignbgnekmaa
/- THE CELL 'sum', in the pinned program and in every row, IS THE sha256 OF THE DUMP (.gsa) THAT YtpceignbgnekmaaProg.lean LOADS. Nothing in Lean hashes anything: it is a label: what it is worth is what the hold of that sum in a sandbox is worth. -/
noncomputable def Try.pinned : Pinned := { name := "ytpceignbgnekmaa", sum := "bbfa6bac67a3cdc2919a127bbad0774435908279dc32b3a15cbc00ed4f343496", checked := Try.checked }
namespace Rows
def none {H : Type} : Left H := { results := [], args := [] }

/-- 'hatchwaylaw03.LebReads': WHATEVER THE INPUT: true; the input reads as it did. -/
def lebReadsSpec : ChangeSpec := { name := "lebReads", fn := fun _ => fun
  | [d] => { results := [.lit (.bool true)], args := [d] }
  | _ => none }
def lebReadsRow : OpenClaim := { program := "ytpceignbgnekmaa", sum := "bbfa6bac67a3cdc2919a127bbad0774435908279dc32b3a15cbc00ed4f343496", func := "hatchway/hatchwaylaw03.LebReads", spec := "lebReads", plainKeys := false, apart := false }
def LebReadsSaid : Prop := lebReadsRow.holds Try.pinned (OpenSpec.ofChange lebReadsSpec)

/-- ITS FALSE NEIGHBOUR: 'it returns false'. Refute it at one input. -/
def lebReadsWrong : ChangeSpec := { name := "lebReads", fn := fun _ => fun
  | [d] => { results := [.lit (.bool false)], args := [d] }
  | _ => none }
def LebReadsWrongFalsely : Prop := lebReadsRow.holds Try.pinned (OpenSpec.ofChange lebReadsWrong)

/-- 'hatchwaylaw03.LebShort': WHATEVER THE INPUT: true; the input reads as it did. -/
def lebShortSpec : ChangeSpec := { name := "lebShort", fn := fun _ => fun
  | [d1, d2] => { results := [.lit (.bool true)], args := [d1, d2] }
  | _ => none }
def lebShortRow : OpenClaim := { program := "ytpceignbgnekmaa", sum := "bbfa6bac67a3cdc2919a127bbad0774435908279dc32b3a15cbc00ed4f343496", func := "hatchway/hatchwaylaw03.LebShort", spec := "lebShort", plainKeys := false, apart := false }
def LebShortSaid : Prop := lebShortRow.holds Try.pinned (OpenSpec.ofChange lebShortSpec)

/-- ITS FALSE NEIGHBOUR: 'it returns false'. Refute it at one input. -/
def lebShortWrong : ChangeSpec := { name := "lebShort", fn := fun _ => fun
  | [d1, d2] => { results := [.lit (.bool false)], args := [d1, d2] }
  | _ => none }
def LebShortWrongFalsely : Prop := lebShortRow.holds Try.pinned (OpenSpec.ofChange lebShortWrong)

/-- 'hatchwaylaw03.LebPuts': WHATEVER THE INPUT: true; the input reads as it did. -/
def lebPutsSpec : ChangeSpec := { name := "lebPuts", fn := fun _ => fun
  | [d1, d2] => { results := [.lit (.bool true)], args := [d1, d2] }
  | _ => none }
def lebPutsRow : OpenClaim := { program := "ytpceignbgnekmaa", sum := "bbfa6bac67a3cdc2919a127bbad0774435908279dc32b3a15cbc00ed4f343496", func := "hatchway/hatchwaylaw03.LebPuts", spec := "lebPuts", recurses := true, plainKeys := false, apart := false }
def LebPutsSaid : Prop := lebPutsRow.holds Try.pinned (OpenSpec.ofChange lebPutsSpec)

/-- ITS FALSE NEIGHBOUR: 'it returns false'. Refute it at one input. -/
def lebPutsWrong : ChangeSpec := { name := "lebPuts", fn := fun _ => fun
  | [d1, d2] => { results := [.lit (.bool false)], args := [d1, d2] }
  | _ => none }
def LebPutsWrongFalsely : Prop := lebPutsRow.holds Try.pinned (OpenSpec.ofChange lebPutsWrong)

/-- 'hatchwaylaw01.CursorWhole': WHATEVER THE INPUT: true; the input reads as it did. -/
def cursorWholeSpec : ChangeSpec := { name := "cursorWhole", fn := fun _ => fun
  | [d1, d2] => { results := [.lit (.bool true)], args := [d1, d2] }
  | _ => none }
def cursorWholeRow : OpenClaim := { program := "ytpceignbgnekmaa", sum := "bbfa6bac67a3cdc2919a127bbad0774435908279dc32b3a15cbc00ed4f343496", func := "hatchway/hatchwaylaw01.CursorWhole", spec := "cursorWhole", unfollowed := true, recurses := true, plainKeys := false, apart := false }
def CursorWholeSaid : Prop := cursorWholeRow.holds Try.pinned (OpenSpec.ofChange cursorWholeSpec)

/-- ITS FALSE NEIGHBOUR: 'it returns false'. Refute it at one input. -/
def cursorWholeWrong : ChangeSpec := { name := "cursorWhole", fn := fun _ => fun
  | [d1, d2] => { results := [.lit (.bool false)], args := [d1, d2] }
  | _ => none }
def CursorWholeWrongFalsely : Prop := cursorWholeRow.holds Try.pinned (OpenSpec.ofChange cursorWholeWrong)

/-- 'hatchwaylaw12.SqueezePacks': WHATEVER THE INPUT: true; the input reads as it did. -/
def squeezePacksSpec : ChangeSpec := { name := "squeezePacks", fn := fun _ => fun
  | [d] => { results := [.lit (.bool true)], args := [d] }
  | _ => none }
def squeezePacksRow : OpenClaim := { program := "ytpceignbgnekmaa", sum := "bbfa6bac67a3cdc2919a127bbad0774435908279dc32b3a15cbc00ed4f343496", func := "hatchway/hatchwaylaw12.SqueezePacks", spec := "squeezePacks", unfollowed := true, recurses := true, plainKeys := false, apart := false }
def SqueezePacksSaid : Prop := squeezePacksRow.holds Try.pinned (OpenSpec.ofChange squeezePacksSpec)

/-- ITS FALSE NEIGHBOUR: 'it returns false'. Refute it at one input. -/
def squeezePacksWrong : ChangeSpec := { name := "squeezePacks", fn := fun _ => fun
  | [d] => { results := [.lit (.bool false)], args := [d] }
  | _ => none }
def SqueezePacksWrongFalsely : Prop := squeezePacksRow.holds Try.pinned (OpenSpec.ofChange squeezePacksWrong)

/-- 'hatchwaylaw12.SqueezeWide': WHATEVER THE INPUT: true; the input reads as it did. -/
def squeezeWideSpec : ChangeSpec := { name := "squeezeWide", fn := fun _ => fun
  | [d1, d2] => { results := [.lit (.bool true)], args := [d1, d2] }
  | _ => none }
def squeezeWideRow : OpenClaim := { program := "ytpceignbgnekmaa", sum := "bbfa6bac67a3cdc2919a127bbad0774435908279dc32b3a15cbc00ed4f343496", func := "hatchway/hatchwaylaw12.SqueezeWide", spec := "squeezeWide", unfollowed := true, recurses := true, plainKeys := false, apart := false }
def SqueezeWideSaid : Prop := squeezeWideRow.holds Try.pinned (OpenSpec.ofChange squeezeWideSpec)

/-- ITS FALSE NEIGHBOUR: 'it returns false'. Refute it at one input. -/
def squeezeWideWrong : ChangeSpec := { name := "squeezeWide", fn := fun _ => fun
  | [d1, d2] => { results := [.lit (.bool false)], args := [d1, d2] }
  | _ => none }
def SqueezeWideWrongFalsely : Prop := squeezeWideRow.holds Try.pinned (OpenSpec.ofChange squeezeWideWrong)

/-- 'hatchwaylaw11.SnapUnpacks': WHATEVER THE INPUT: true; the input reads as it did. -/
def snapUnpacksSpec : ChangeSpec := { name := "snapUnpacks", fn := fun _ => fun
  | [d1, d2] => { results := [.lit (.bool true)], args := [d1, d2] }
  | _ => none }
def snapUnpacksRow : OpenClaim := { program := "ytpceignbgnekmaa", sum := "bbfa6bac67a3cdc2919a127bbad0774435908279dc32b3a15cbc00ed4f343496", func := "hatchway/hatchwaylaw11.SnapUnpacks", spec := "snapUnpacks", unfollowed := true, recurses := true, plainKeys := false, apart := false }
def SnapUnpacksSaid : Prop := snapUnpacksRow.holds Try.pinned (OpenSpec.ofChange snapUnpacksSpec)

/-- ITS FALSE NEIGHBOUR: 'it returns false'. Refute it at one input. -/
def snapUnpacksWrong : ChangeSpec := { name := "snapUnpacks", fn := fun _ => fun
  | [d1, d2] => { results := [.lit (.bool false)], args := [d1, d2] }
  | _ => none }
def SnapUnpacksWrongFalsely : Prop := snapUnpacksRow.holds Try.pinned (OpenSpec.ofChange snapUnpacksWrong)

/-- 'hatchwaylaw11.SnapPlain': WHATEVER THE INPUT: true; the input reads as it did. -/
def snapPlainSpec : ChangeSpec := { name := "snapPlain", fn := fun _ => fun
  | [d1, d2] => { results := [.lit (.bool true)], args := [d1, d2] }
  | _ => none }
def snapPlainRow : OpenClaim := { program := "ytpceignbgnekmaa", sum := "bbfa6bac67a3cdc2919a127bbad0774435908279dc32b3a15cbc00ed4f343496", func := "hatchway/hatchwaylaw11.SnapPlain", spec := "snapPlain", unfollowed := true, recurses := true, plainKeys := false, apart := false }
def SnapPlainSaid : Prop := snapPlainRow.holds Try.pinned (OpenSpec.ofChange snapPlainSpec)

/-- ITS FALSE NEIGHBOUR: 'it returns false'. Refute it at one input. -/
def snapPlainWrong : ChangeSpec := { name := "snapPlain", fn := fun _ => fun
  | [d1, d2] => { results := [.lit (.bool false)], args := [d1, d2] }
  | _ => none }
def SnapPlainWrongFalsely : Prop := snapPlainRow.holds Try.pinned (OpenSpec.ofChange snapPlainWrong)

/-- 'hatchwaylaw11.SnapRuns': WHATEVER THE INPUT: true; the input reads as it did. -/
def snapRunsSpec : ChangeSpec := { name := "snapRuns", fn := fun _ => fun
  | [d1, d2] => { results := [.lit (.bool true)], args := [d1, d2] }
  | _ => none }
def snapRunsRow : OpenClaim := { program := "ytpceignbgnekmaa", sum := "bbfa6bac67a3cdc2919a127bbad0774435908279dc32b3a15cbc00ed4f343496", func := "hatchway/hatchwaylaw11.SnapRuns", spec := "snapRuns", unfollowed := true, recurses := true, plainKeys := false, apart := false }
def SnapRunsSaid : Prop := snapRunsRow.holds Try.pinned (OpenSpec.ofChange snapRunsSpec)

/-- ITS FALSE NEIGHBOUR: 'it returns false'. Refute it at one input. -/
def snapRunsWrong : ChangeSpec := { name := "snapRuns", fn := fun _ => fun
  | [d1, d2] => { results := [.lit (.bool false)], args := [d1, d2] }
  | _ => none }
def SnapRunsWrongFalsely : Prop := snapRunsRow.holds Try.pinned (OpenSpec.ofChange snapRunsWrong)

/-- 'hatchwaylaw11.SnapMeters': WHATEVER THE INPUT: true; the input reads as it did. -/
def snapMetersSpec : ChangeSpec := { name := "snapMeters", fn := fun _ => fun
  | [d1, d2, d3] => { results := [.lit (.bool true)], args := [d1, d2, d3] }
  | _ => none }
def snapMetersRow : OpenClaim := { program := "ytpceignbgnekmaa", sum := "bbfa6bac67a3cdc2919a127bbad0774435908279dc32b3a15cbc00ed4f343496", func := "hatchway/hatchwaylaw11.SnapMeters", spec := "snapMeters", unfollowed := true, recurses := true, plainKeys := false, apart := false }
def SnapMetersSaid : Prop := snapMetersRow.holds Try.pinned (OpenSpec.ofChange snapMetersSpec)

/-- ITS FALSE NEIGHBOUR: 'it returns false'. Refute it at one input. -/
def snapMetersWrong : ChangeSpec := { name := "snapMeters", fn := fun _ => fun
  | [d1, d2, d3] => { results := [.lit (.bool false)], args := [d1, d2, d3] }
  | _ => none }
def SnapMetersWrongFalsely : Prop := snapMetersRow.holds Try.pinned (OpenSpec.ofChange snapMetersWrong)

/-- 'hatchwaylaw12.SqueezeFar': WHATEVER THE INPUT: true; the input reads as it did. -/
def squeezeFarSpec : ChangeSpec := { name := "squeezeFar", fn := fun _ => fun
  | [d1, d2] => { results := [.lit (.bool true)], args := [d1, d2] }
  | _ => none }
def squeezeFarRow : OpenClaim := { program := "ytpceignbgnekmaa", sum := "bbfa6bac67a3cdc2919a127bbad0774435908279dc32b3a15cbc00ed4f343496", func := "hatchway/hatchwaylaw12.SqueezeFar", spec := "squeezeFar", unfollowed := true, recurses := true, plainKeys := false, apart := false }
def SqueezeFarSaid : Prop := squeezeFarRow.holds Try.pinned (OpenSpec.ofChange squeezeFarSpec)

/-- ITS FALSE NEIGHBOUR: 'it returns false'. Refute it at one input. -/
def squeezeFarWrong : ChangeSpec := { name := "squeezeFar", fn := fun _ => fun
  | [d1, d2] => { results := [.lit (.bool false)], args := [d1, d2] }
  | _ => none }
def SqueezeFarWrongFalsely : Prop := squeezeFarRow.holds Try.pinned (OpenSpec.ofChange squeezeFarWrong)

/- THE SECOND FORM. 'bulk': how many values and letters a reading holds, each counted each time it is reached (what is shared counts as often as it is met; a slice's spare places count too). A statement '..UptoSaid' is the law's where the arguments, and the package variables that the reading takes, are together of bulk at most 1048576: NARROWER than '..Said'. Prove '..Said' where nothing that the law and all that it calls make is longer than what came in: it says more and counts as full. Else prove '..UptoSaid'. A law counts once. -/
mutual
def uptoBulk {H : Type} : DataW H → Nat
  | .lit (.string bytes) => bytes.length + 1
  | .lit _ => 1
  | .nil => 1
  | .ptr d => uptoBulk d + 1
  | .slice elems spare => uptoBulkAll elems + uptoBulkAll spare + 1
  | .agg parts => uptoBulkAll parts + 1
  | .iface _ d => uptoBulk d + 1
  | .map entries => uptoBulkEntries entries + 1
  | .held _ => 1
def uptoBulkAll {H : Type} : List (DataW H) → Nat
  | [] => 0
  | d :: r => uptoBulk d + uptoBulkAll r
def uptoBulkEntries {H : Type} : List (Lit × DataW H) → Nat
  | [] => 0
  | x :: r => uptoBulkEntry x + uptoBulkEntries r
def uptoBulkEntry {H : Type} : Lit × DataW H → Nat
  | (.string bytes, d) => bytes.length + uptoBulk d + 1
  | (_, d) => uptoBulk d + 1
 end
def uptoSmall : (H : Type) → List (DataW H) → Bool := fun _ ds => decide (uptoBulkAll ds ≤ 1048576)
def OpenSpec.upto (s : _root_.Go.ChangeSpec) : _root_.Go.OpenSpec := { _root_.Go.OpenSpec.ofChange s with cond := some uptoSmall }

/-- 'hatchwaylaw03.LebReads', WHERE WHAT IT READS IS OF BULK AT MOST 1048576: true; the input reads as it did. -/
def lebReadsUptoRow : OpenClaim := { program := "ytpceignbgnekmaa", sum := "bbfa6bac67a3cdc2919a127bbad0774435908279dc32b3a15cbc00ed4f343496", func := "hatchway/hatchwaylaw03.LebReads", spec := "lebReads", plainKeys := false, apart := false, narrowed := true }
def LebReadsUptoSaid : Prop := lebReadsUptoRow.holds Try.pinned (OpenSpec.upto lebReadsSpec)

/-- 'hatchwaylaw03.LebShort', WHERE WHAT IT READS IS OF BULK AT MOST 1048576: true; the input reads as it did. -/
def lebShortUptoRow : OpenClaim := { program := "ytpceignbgnekmaa", sum := "bbfa6bac67a3cdc2919a127bbad0774435908279dc32b3a15cbc00ed4f343496", func := "hatchway/hatchwaylaw03.LebShort", spec := "lebShort", plainKeys := false, apart := false, narrowed := true }
def LebShortUptoSaid : Prop := lebShortUptoRow.holds Try.pinned (OpenSpec.upto lebShortSpec)

/-- 'hatchwaylaw03.LebPuts', WHERE WHAT IT READS IS OF BULK AT MOST 1048576: true; the input reads as it did. -/
def lebPutsUptoRow : OpenClaim := { program := "ytpceignbgnekmaa", sum := "bbfa6bac67a3cdc2919a127bbad0774435908279dc32b3a15cbc00ed4f343496", func := "hatchway/hatchwaylaw03.LebPuts", spec := "lebPuts", recurses := true, plainKeys := false, apart := false, narrowed := true }
def LebPutsUptoSaid : Prop := lebPutsUptoRow.holds Try.pinned (OpenSpec.upto lebPutsSpec)

/-- 'hatchwaylaw01.CursorWhole', WHERE WHAT IT READS IS OF BULK AT MOST 1048576: true; the input reads as it did. -/
def cursorWholeUptoRow : OpenClaim := { program := "ytpceignbgnekmaa", sum := "bbfa6bac67a3cdc2919a127bbad0774435908279dc32b3a15cbc00ed4f343496", func := "hatchway/hatchwaylaw01.CursorWhole", spec := "cursorWhole", unfollowed := true, recurses := true, plainKeys := false, apart := false, narrowed := true }
def CursorWholeUptoSaid : Prop := cursorWholeUptoRow.holds Try.pinned (OpenSpec.upto cursorWholeSpec)

/-- 'hatchwaylaw12.SqueezePacks', WHERE WHAT IT READS IS OF BULK AT MOST 1048576: true; the input reads as it did. -/
def squeezePacksUptoRow : OpenClaim := { program := "ytpceignbgnekmaa", sum := "bbfa6bac67a3cdc2919a127bbad0774435908279dc32b3a15cbc00ed4f343496", func := "hatchway/hatchwaylaw12.SqueezePacks", spec := "squeezePacks", unfollowed := true, recurses := true, plainKeys := false, apart := false, narrowed := true }
def SqueezePacksUptoSaid : Prop := squeezePacksUptoRow.holds Try.pinned (OpenSpec.upto squeezePacksSpec)

/-- 'hatchwaylaw12.SqueezeWide', WHERE WHAT IT READS IS OF BULK AT MOST 1048576: true; the input reads as it did. -/
def squeezeWideUptoRow : OpenClaim := { program := "ytpceignbgnekmaa", sum := "bbfa6bac67a3cdc2919a127bbad0774435908279dc32b3a15cbc00ed4f343496", func := "hatchway/hatchwaylaw12.SqueezeWide", spec := "squeezeWide", unfollowed := true, recurses := true, plainKeys := false, apart := false, narrowed := true }
def SqueezeWideUptoSaid : Prop := squeezeWideUptoRow.holds Try.pinned (OpenSpec.upto squeezeWideSpec)

/-- 'hatchwaylaw11.SnapUnpacks', WHERE WHAT IT READS IS OF BULK AT MOST 1048576: true; the input reads as it did. -/
def snapUnpacksUptoRow : OpenClaim := { program := "ytpceignbgnekmaa", sum := "bbfa6bac67a3cdc2919a127bbad0774435908279dc32b3a15cbc00ed4f343496", func := "hatchway/hatchwaylaw11.SnapUnpacks", spec := "snapUnpacks", unfollowed := true, recurses := true, plainKeys := false, apart := false, narrowed := true }
def SnapUnpacksUptoSaid : Prop := snapUnpacksUptoRow.holds Try.pinned (OpenSpec.upto snapUnpacksSpec)

/-- 'hatchwaylaw11.SnapPlain', WHERE WHAT IT READS IS OF BULK AT MOST 1048576: true; the input reads as it did. -/
def snapPlainUptoRow : OpenClaim := { program := "ytpceignbgnekmaa", sum := "bbfa6bac67a3cdc2919a127bbad0774435908279dc32b3a15cbc00ed4f343496", func := "hatchway/hatchwaylaw11.SnapPlain", spec := "snapPlain", unfollowed := true, recurses := true, plainKeys := false, apart := false, narrowed := true }
def SnapPlainUptoSaid : Prop := snapPlainUptoRow.holds Try.pinned (OpenSpec.upto snapPlainSpec)

/-- 'hatchwaylaw11.SnapRuns', WHERE WHAT IT READS IS OF BULK AT MOST 1048576: true; the input reads as it did. -/
def snapRunsUptoRow : OpenClaim := { program := "ytpceignbgnekmaa", sum := "bbfa6bac67a3cdc2919a127bbad0774435908279dc32b3a15cbc00ed4f343496", func := "hatchway/hatchwaylaw11.SnapRuns", spec := "snapRuns", unfollowed := true, recurses := true, plainKeys := false, apart := false, narrowed := true }
def SnapRunsUptoSaid : Prop := snapRunsUptoRow.holds Try.pinned (OpenSpec.upto snapRunsSpec)

/-- 'hatchwaylaw11.SnapMeters', WHERE WHAT IT READS IS OF BULK AT MOST 1048576: true; the input reads as it did. -/
def snapMetersUptoRow : OpenClaim := { program := "ytpceignbgnekmaa", sum := "bbfa6bac67a3cdc2919a127bbad0774435908279dc32b3a15cbc00ed4f343496", func := "hatchway/hatchwaylaw11.SnapMeters", spec := "snapMeters", unfollowed := true, recurses := true, plainKeys := false, apart := false, narrowed := true }
def SnapMetersUptoSaid : Prop := snapMetersUptoRow.holds Try.pinned (OpenSpec.upto snapMetersSpec)

/-- 'hatchwaylaw12.SqueezeFar', WHERE WHAT IT READS IS OF BULK AT MOST 1048576: true; the input reads as it did. -/
def squeezeFarUptoRow : OpenClaim := { program := "ytpceignbgnekmaa", sum := "bbfa6bac67a3cdc2919a127bbad0774435908279dc32b3a15cbc00ed4f343496", func := "hatchway/hatchwaylaw12.SqueezeFar", spec := "squeezeFar", unfollowed := true, recurses := true, plainKeys := false, apart := false, narrowed := true }
def SqueezeFarUptoSaid : Prop := squeezeFarUptoRow.holds Try.pinned (OpenSpec.upto squeezeFarSpec)

end Rows
end Go.Proofs.Ytpceignbgnekmaa
