/-
  No cell of these rows narrows 'for every input' (looked for: loops, veiled, ifaces, maps, wideKeys, modest, calm, conditions, laid).
  DERIVED. THE GIVEN ROWS OF THIS SEAT. 5 by the template 'for every input the law returns true; each argument reads behind the call as it read before'; 0 by the template 'total and deterministic' (their statements: YtoiacgfhjikddaaTotals.lean).
  GIVEN WITH THE SEED: the statements are not yours to turn. If you find one false, say at which input.
  Laid BY PROGRAM, IN A SANDBOX (cutbox-rows.mjs): the forced cells as the released guide's own fill.sh prints them over the translation 66adc6146f02c52e… (all of the seat's roots in one cut). By AI agents, Wed Nov 11 2026. No macro, syntax, notation, axiom, sorry.
-/
import Derived.Test.YtoiacgfhjikddaaChecked
import GoSem.Claim
import GoSem.ClaimJoined
import GoSem.ClaimMapViews
import Derived.JoinedTies
import Derived.KernelRfl
namespace Go.Proofs.Ytoiacgfhjikddaa
/- THE CELL 'sum', in the pinned program and in every row, IS THE sha256 OF THE DUMP (.gsa) THAT YtoiacgfhjikddaaProg.lean LOADS. Nothing in Lean hashes anything: it is a label: what it is worth is what the hold of that sum in a sandbox is worth. -/
noncomputable def Try.pinned : Pinned := { name := "ytoiacgfhjikddaa", sum := "66adc6146f02c52e9cb57dfb962b3be4f7acf7181732bab5c8323a7ea85b94b9", checked := Try.checked }
namespace Rows
def none {H : Type} : Left H := { results := [], args := [] }

/-- 'reticulelaw03.CacheWrites': WHATEVER THE INPUT: true; the input reads as it did. -/
def cacheWritesSpec : ChangeSpec := { name := "cacheWrites", fn := fun _ => fun
  | [d1, d2, d3] => { results := [.lit (.bool true)], args := [d1, d2, d3] }
  | _ => none }
def cacheWritesRow : OpenClaim := { program := "ytoiacgfhjikddaa", sum := "66adc6146f02c52e9cb57dfb962b3be4f7acf7181732bab5c8323a7ea85b94b9", func := "reticule/reticulelaw03.CacheWrites", spec := "cacheWrites", unfollowed := true, recurses := true, apart := false }
def CacheWritesSaid : Prop := cacheWritesRow.holds Try.pinned (OpenSpec.ofChange cacheWritesSpec)

/-- ITS FALSE NEIGHBOUR: 'it returns false'. Refute it at one input. -/
def cacheWritesWrong : ChangeSpec := { name := "cacheWrites", fn := fun _ => fun
  | [d1, d2, d3] => { results := [.lit (.bool false)], args := [d1, d2, d3] }
  | _ => none }
def CacheWritesWrongFalsely : Prop := cacheWritesRow.holds Try.pinned (OpenSpec.ofChange cacheWritesWrong)

/-- 'reticulelaw03.CacheFlushes': WHATEVER THE INPUT: true; the input reads as it did. -/
def cacheFlushesSpec : ChangeSpec := { name := "cacheFlushes", fn := fun _ => fun
  | [d1, d2, d3] => { results := [.lit (.bool true)], args := [d1, d2, d3] }
  | _ => none }
def cacheFlushesRow : OpenClaim := { program := "ytoiacgfhjikddaa", sum := "66adc6146f02c52e9cb57dfb962b3be4f7acf7181732bab5c8323a7ea85b94b9", func := "reticule/reticulelaw03.CacheFlushes", spec := "cacheFlushes", unfollowed := true, recurses := true, apart := false }
def CacheFlushesSaid : Prop := cacheFlushesRow.holds Try.pinned (OpenSpec.ofChange cacheFlushesSpec)

/-- ITS FALSE NEIGHBOUR: 'it returns false'. Refute it at one input. -/
def cacheFlushesWrong : ChangeSpec := { name := "cacheFlushes", fn := fun _ => fun
  | [d1, d2, d3] => { results := [.lit (.bool false)], args := [d1, d2, d3] }
  | _ => none }
def CacheFlushesWrongFalsely : Prop := cacheFlushesRow.holds Try.pinned (OpenSpec.ofChange cacheFlushesWrong)

/-- 'reticulelaw03.CacheShows': WHATEVER THE INPUT: true; the input reads as it did. -/
def cacheShowsSpec : ChangeSpec := { name := "cacheShows", fn := fun _ => fun
  | [d1, d2, d3] => { results := [.lit (.bool true)], args := [d1, d2, d3] }
  | _ => none }
def cacheShowsRow : OpenClaim := { program := "ytoiacgfhjikddaa", sum := "66adc6146f02c52e9cb57dfb962b3be4f7acf7181732bab5c8323a7ea85b94b9", func := "reticule/reticulelaw03.CacheShows", spec := "cacheShows", unfollowed := true, recurses := true, apart := false }
def CacheShowsSaid : Prop := cacheShowsRow.holds Try.pinned (OpenSpec.ofChange cacheShowsSpec)

/-- ITS FALSE NEIGHBOUR: 'it returns false'. Refute it at one input. -/
def cacheShowsWrong : ChangeSpec := { name := "cacheShows", fn := fun _ => fun
  | [d1, d2, d3] => { results := [.lit (.bool false)], args := [d1, d2, d3] }
  | _ => none }
def CacheShowsWrongFalsely : Prop := cacheShowsRow.holds Try.pinned (OpenSpec.ofChange cacheShowsWrong)

/-- 'reticulelaw03.CacheLoses': WHATEVER THE INPUT: true; the input reads as it did. -/
def cacheLosesSpec : ChangeSpec := { name := "cacheLoses", fn := fun _ => fun
  | [d1, d2, d3] => { results := [.lit (.bool true)], args := [d1, d2, d3] }
  | _ => none }
def cacheLosesRow : OpenClaim := { program := "ytoiacgfhjikddaa", sum := "66adc6146f02c52e9cb57dfb962b3be4f7acf7181732bab5c8323a7ea85b94b9", func := "reticule/reticulelaw03.CacheLoses", spec := "cacheLoses", unfollowed := true, recurses := true, apart := false }
def CacheLosesSaid : Prop := cacheLosesRow.holds Try.pinned (OpenSpec.ofChange cacheLosesSpec)

/-- ITS FALSE NEIGHBOUR: 'it returns false'. Refute it at one input. -/
def cacheLosesWrong : ChangeSpec := { name := "cacheLoses", fn := fun _ => fun
  | [d1, d2, d3] => { results := [.lit (.bool false)], args := [d1, d2, d3] }
  | _ => none }
def CacheLosesWrongFalsely : Prop := cacheLosesRow.holds Try.pinned (OpenSpec.ofChange cacheLosesWrong)

/-- 'reticulelaw03.CacheThrough': WHATEVER THE INPUT: true; the input reads as it did. -/
def cacheThroughSpec : ChangeSpec := { name := "cacheThrough", fn := fun _ => fun
  | [d1, d2, d3] => { results := [.lit (.bool true)], args := [d1, d2, d3] }
  | _ => none }
def cacheThroughRow : OpenClaim := { program := "ytoiacgfhjikddaa", sum := "66adc6146f02c52e9cb57dfb962b3be4f7acf7181732bab5c8323a7ea85b94b9", func := "reticule/reticulelaw03.CacheThrough", spec := "cacheThrough", unfollowed := true, recurses := true, apart := false }
def CacheThroughSaid : Prop := cacheThroughRow.holds Try.pinned (OpenSpec.ofChange cacheThroughSpec)

/-- ITS FALSE NEIGHBOUR: 'it returns false'. Refute it at one input. -/
def cacheThroughWrong : ChangeSpec := { name := "cacheThrough", fn := fun _ => fun
  | [d1, d2, d3] => { results := [.lit (.bool false)], args := [d1, d2, d3] }
  | _ => none }
def CacheThroughWrongFalsely : Prop := cacheThroughRow.holds Try.pinned (OpenSpec.ofChange cacheThroughWrong)

/- THE SECOND FORM. 'bulk': how many values and letters a reading holds, each counted each time it is reached (what is shared counts as often as it is met; a slice's spare places count too). A statement '..UptoSaid' is the law's where the arguments, and the package variables that the reading takes, are together of bulk at most 1048576: NARROWER than '..Said'. Prove '..Said' where nothing that the law and all that it calls make is longer than what came in: it says more and counts as full. Else prove '..UptoSaid'. A law counts once. -/
mutual
def uptoBulk {H : Type} : DataW H → Nat
  | .lit (.string bytes) => bytes.length + 1
  | .lit _ => 1
  | .nil => 1
  | .ptr d => uptoBulk d + 1
  | .slice elems spare => uptoBulkAll elems + uptoBulkAll spare + 1
  | .agg parts => uptoBulkAll parts + 1
  | .iface _ d => uptoBulk d + 1
  | .map entries => uptoBulkEntries entries + 1
  | .held _ => 1
def uptoBulkAll {H : Type} : List (DataW H) → Nat
  | [] => 0
  | d :: r => uptoBulk d + uptoBulkAll r
def uptoBulkEntries {H : Type} : List (Lit × DataW H) → Nat
  | [] => 0
  | x :: r => uptoBulkEntry x + uptoBulkEntries r
def uptoBulkEntry {H : Type} : Lit × DataW H → Nat
  | (.string bytes, d) => bytes.length + uptoBulk d + 1
  | (_, d) => uptoBulk d + 1
 end
def uptoSmall : (H : Type) → List (DataW H) → Bool := fun _ ds => decide (uptoBulkAll ds ≤ 1048576)
def OpenSpec.upto (s : _root_.Go.ChangeSpec) : _root_.Go.OpenSpec := { _root_.Go.OpenSpec.ofChange s with cond := some uptoSmall }

/-- 'reticulelaw03.CacheWrites', WHERE WHAT IT READS IS OF BULK AT MOST 1048576: true; the input reads as it did. -/
def cacheWritesUptoRow : OpenClaim := { program := "ytoiacgfhjikddaa", sum := "66adc6146f02c52e9cb57dfb962b3be4f7acf7181732bab5c8323a7ea85b94b9", func := "reticule/reticulelaw03.CacheWrites", spec := "cacheWrites", unfollowed := true, recurses := true, apart := false, narrowed := true }
def CacheWritesUptoSaid : Prop := cacheWritesUptoRow.holds Try.pinned (OpenSpec.upto cacheWritesSpec)

/-- 'reticulelaw03.CacheFlushes', WHERE WHAT IT READS IS OF BULK AT MOST 1048576: true; the input reads as it did. -/
def cacheFlushesUptoRow : OpenClaim := { program := "ytoiacgfhjikddaa", sum := "66adc6146f02c52e9cb57dfb962b3be4f7acf7181732bab5c8323a7ea85b94b9", func := "reticule/reticulelaw03.CacheFlushes", spec := "cacheFlushes", unfollowed := true, recurses := true, apart := false, narrowed := true }
def CacheFlushesUptoSaid : Prop := cacheFlushesUptoRow.holds Try.pinned (OpenSpec.upto cacheFlushesSpec)

/-- 'reticulelaw03.CacheShows', WHERE WHAT IT READS IS OF BULK AT MOST 1048576: true; the input reads as it did. -/
def cacheShowsUptoRow : OpenClaim := { program := "ytoiacgfhjikddaa", sum := "66adc6146f02c52e9cb57dfb962b3be4f7acf7181732bab5c8323a7ea85b94b9", func := "reticule/reticulelaw03.CacheShows", spec := "cacheShows", unfollowed := true, recurses := true, apart := false, narrowed := true }
def CacheShowsUptoSaid : Prop := cacheShowsUptoRow.holds Try.pinned (OpenSpec.upto cacheShowsSpec)

/-- 'reticulelaw03.CacheLoses', WHERE WHAT IT READS IS OF BULK AT MOST 1048576: true; the input reads as it did. -/
def cacheLosesUptoRow : OpenClaim := { program := "ytoiacgfhjikddaa", sum := "66adc6146f02c52e9cb57dfb962b3be4f7acf7181732bab5c8323a7ea85b94b9", func := "reticule/reticulelaw03.CacheLoses", spec := "cacheLoses", unfollowed := true, recurses := true, apart := false, narrowed := true }
def CacheLosesUptoSaid : Prop := cacheLosesUptoRow.holds Try.pinned (OpenSpec.upto cacheLosesSpec)

/-- 'reticulelaw03.CacheThrough', WHERE WHAT IT READS IS OF BULK AT MOST 1048576: true; the input reads as it did. -/
def cacheThroughUptoRow : OpenClaim := { program := "ytoiacgfhjikddaa", sum := "66adc6146f02c52e9cb57dfb962b3be4f7acf7181732bab5c8323a7ea85b94b9", func := "reticule/reticulelaw03.CacheThrough", spec := "cacheThrough", unfollowed := true, recurses := true, apart := false, narrowed := true }
def CacheThroughUptoSaid : Prop := cacheThroughUptoRow.holds Try.pinned (OpenSpec.upto cacheThroughSpec)

end Rows
end Go.Proofs.Ytoiacgfhjikddaa
