/-
  No cell of these rows narrows 'for every input' (looked for: loops, veiled, ifaces, maps, wideKeys, modest, calm, conditions, laid).
  DERIVED. THE GIVEN ROWS OF THIS SEAT. 16 by the template 'for every input the law returns true; each argument reads behind the call as it read before'; 0 by the template 'total and deterministic' (their statements: YtooalgnppnmeaaaTotals.lean).
  GIVEN WITH THE SEED: the statements are not yours to turn. If you find one false, say at which input.
  Laid BY PROGRAM, IN A SANDBOX (cutbox-rows.mjs): the forced cells as the released guide's own fill.sh prints them over the translation 519d408d50890cfa… (all of the seat's roots in one cut). By AI agents, Wed Nov 11 2026. No macro, syntax, notation, axiom, sorry.
-/
import Derived.Test.YtooalgnppnmeaaaChecked
import GoSem.Claim
import GoSem.ClaimJoined
import GoSem.ClaimMapViews
import Derived.JoinedTies
import Derived.KernelRfl
namespace Go.Proofs.Ytooalgnppnmeaaa
/- THE CELL 'sum', in the pinned program and in every row, IS THE sha256 OF THE DUMP (.gsa) THAT YtooalgnppnmeaaaProg.lean LOADS. Nothing in Lean hashes anything: it is a label: what it is worth is what the hold of that sum in a sandbox is worth. -/
noncomputable def Try.pinned : Pinned := { name := "ytooalgnppnmeaaa", sum := "519d408d50890cfa182a25da0b6381bf872d2c2358ba6010bc4b88b1d5d32be3", checked := Try.checked }
namespace Rows
def none {H : Type} : Left H := { results := [], args := [] }

/-- 'ropewalklaw11.HeapFull': WHATEVER THE INPUT: true; the input reads as it did. -/
def heapFullSpec : ChangeSpec := { name := "heapFull", fn := fun _ => fun
  | [d1, d2] => { results := [.lit (.bool true)], args := [d1, d2] }
  | _ => none }
def heapFullRow : OpenClaim := { program := "ytooalgnppnmeaaa", sum := "519d408d50890cfa182a25da0b6381bf872d2c2358ba6010bc4b88b1d5d32be3", func := "ropewalk/ropewalklaw11.HeapFull", spec := "heapFull", apart := false }
def HeapFullSaid : Prop := heapFullRow.holds Try.pinned (OpenSpec.ofChange heapFullSpec)

/-- ITS FALSE NEIGHBOUR: 'it returns false'. Refute it at one input. -/
def heapFullWrong : ChangeSpec := { name := "heapFull", fn := fun _ => fun
  | [d1, d2] => { results := [.lit (.bool false)], args := [d1, d2] }
  | _ => none }
def HeapFullWrongFalsely : Prop := heapFullRow.holds Try.pinned (OpenSpec.ofChange heapFullWrong)

/-- 'ropewalklaw11.HeapRings': WHATEVER THE INPUT: true; the input reads as it did. -/
def heapRingsSpec : ChangeSpec := { name := "heapRings", fn := fun _ => fun
  | [d1, d2] => { results := [.lit (.bool true)], args := [d1, d2] }
  | _ => none }
def heapRingsRow : OpenClaim := { program := "ytooalgnppnmeaaa", sum := "519d408d50890cfa182a25da0b6381bf872d2c2358ba6010bc4b88b1d5d32be3", func := "ropewalk/ropewalklaw11.HeapRings", spec := "heapRings", apart := false }
def HeapRingsSaid : Prop := heapRingsRow.holds Try.pinned (OpenSpec.ofChange heapRingsSpec)

/-- ITS FALSE NEIGHBOUR: 'it returns false'. Refute it at one input. -/
def heapRingsWrong : ChangeSpec := { name := "heapRings", fn := fun _ => fun
  | [d1, d2] => { results := [.lit (.bool false)], args := [d1, d2] }
  | _ => none }
def HeapRingsWrongFalsely : Prop := heapRingsRow.holds Try.pinned (OpenSpec.ofChange heapRingsWrong)

/-- 'ropewalklaw11.HeapKeeps': WHATEVER THE INPUT: true; the input reads as it did. -/
def heapKeepsSpec : ChangeSpec := { name := "heapKeeps", fn := fun _ => fun
  | [d1, d2, d3] => { results := [.lit (.bool true)], args := [d1, d2, d3] }
  | _ => none }
def heapKeepsRow : OpenClaim := { program := "ytooalgnppnmeaaa", sum := "519d408d50890cfa182a25da0b6381bf872d2c2358ba6010bc4b88b1d5d32be3", func := "ropewalk/ropewalklaw11.HeapKeeps", spec := "heapKeeps", apart := false }
def HeapKeepsSaid : Prop := heapKeepsRow.holds Try.pinned (OpenSpec.ofChange heapKeepsSpec)

/-- ITS FALSE NEIGHBOUR: 'it returns false'. Refute it at one input. -/
def heapKeepsWrong : ChangeSpec := { name := "heapKeeps", fn := fun _ => fun
  | [d1, d2, d3] => { results := [.lit (.bool false)], args := [d1, d2, d3] }
  | _ => none }
def HeapKeepsWrongFalsely : Prop := heapKeepsRow.holds Try.pinned (OpenSpec.ofChange heapKeepsWrong)

/-- 'ropewalklaw11.HeapResolves': WHATEVER THE INPUT: true; the input reads as it did. -/
def heapResolvesSpec : ChangeSpec := { name := "heapResolves", fn := fun _ => fun
  | [d1, d2] => { results := [.lit (.bool true)], args := [d1, d2] }
  | _ => none }
def heapResolvesRow : OpenClaim := { program := "ytooalgnppnmeaaa", sum := "519d408d50890cfa182a25da0b6381bf872d2c2358ba6010bc4b88b1d5d32be3", func := "ropewalk/ropewalklaw11.HeapResolves", spec := "heapResolves", apart := false }
def HeapResolvesSaid : Prop := heapResolvesRow.holds Try.pinned (OpenSpec.ofChange heapResolvesSpec)

/-- ITS FALSE NEIGHBOUR: 'it returns false'. Refute it at one input. -/
def heapResolvesWrong : ChangeSpec := { name := "heapResolves", fn := fun _ => fun
  | [d1, d2] => { results := [.lit (.bool false)], args := [d1, d2] }
  | _ => none }
def HeapResolvesWrongFalsely : Prop := heapResolvesRow.holds Try.pinned (OpenSpec.ofChange heapResolvesWrong)

/-- 'ropewalklaw11.HeapRanges': WHATEVER THE INPUT: true; the input reads as it did. -/
def heapRangesSpec : ChangeSpec := { name := "heapRanges", fn := fun _ => fun
  | [d1, d2, d3, d4] => { results := [.lit (.bool true)], args := [d1, d2, d3, d4] }
  | _ => none }
def heapRangesRow : OpenClaim := { program := "ytooalgnppnmeaaa", sum := "519d408d50890cfa182a25da0b6381bf872d2c2358ba6010bc4b88b1d5d32be3", func := "ropewalk/ropewalklaw11.HeapRanges", spec := "heapRanges", unfollowed := true, recurses := true, apart := false }
def HeapRangesSaid : Prop := heapRangesRow.holds Try.pinned (OpenSpec.ofChange heapRangesSpec)

/-- ITS FALSE NEIGHBOUR: 'it returns false'. Refute it at one input. -/
def heapRangesWrong : ChangeSpec := { name := "heapRanges", fn := fun _ => fun
  | [d1, d2, d3, d4] => { results := [.lit (.bool false)], args := [d1, d2, d3, d4] }
  | _ => none }
def HeapRangesWrongFalsely : Prop := heapRangesRow.holds Try.pinned (OpenSpec.ofChange heapRangesWrong)

/-- 'ropewalklaw11.HeapBack': WHATEVER THE INPUT: true; the input reads as it did. -/
def heapBackSpec : ChangeSpec := { name := "heapBack", fn := fun _ => fun
  | [d1, d2, d3] => { results := [.lit (.bool true)], args := [d1, d2, d3] }
  | _ => none }
def heapBackRow : OpenClaim := { program := "ytooalgnppnmeaaa", sum := "519d408d50890cfa182a25da0b6381bf872d2c2358ba6010bc4b88b1d5d32be3", func := "ropewalk/ropewalklaw11.HeapBack", spec := "heapBack", apart := false }
def HeapBackSaid : Prop := heapBackRow.holds Try.pinned (OpenSpec.ofChange heapBackSpec)

/-- ITS FALSE NEIGHBOUR: 'it returns false'. Refute it at one input. -/
def heapBackWrong : ChangeSpec := { name := "heapBack", fn := fun _ => fun
  | [d1, d2, d3] => { results := [.lit (.bool false)], args := [d1, d2, d3] }
  | _ => none }
def HeapBackWrongFalsely : Prop := heapBackRow.holds Try.pinned (OpenSpec.ofChange heapBackWrong)

/-- 'ropewalklaw11.HeapPlays': WHATEVER THE INPUT: true; the input reads as it did. -/
def heapPlaysSpec : ChangeSpec := { name := "heapPlays", fn := fun _ => fun
  | [d1, d2, d3] => { results := [.lit (.bool true)], args := [d1, d2, d3] }
  | _ => none }
def heapPlaysRow : OpenClaim := { program := "ytooalgnppnmeaaa", sum := "519d408d50890cfa182a25da0b6381bf872d2c2358ba6010bc4b88b1d5d32be3", func := "ropewalk/ropewalklaw11.HeapPlays", spec := "heapPlays", unfollowed := true, recurses := true, apart := false }
def HeapPlaysSaid : Prop := heapPlaysRow.holds Try.pinned (OpenSpec.ofChange heapPlaysSpec)

/-- ITS FALSE NEIGHBOUR: 'it returns false'. Refute it at one input. -/
def heapPlaysWrong : ChangeSpec := { name := "heapPlays", fn := fun _ => fun
  | [d1, d2, d3] => { results := [.lit (.bool false)], args := [d1, d2, d3] }
  | _ => none }
def HeapPlaysWrongFalsely : Prop := heapPlaysRow.holds Try.pinned (OpenSpec.ofChange heapPlaysWrong)

/-- 'ropewalklaw11.HeapRefills': WHATEVER THE INPUT: true; the input reads as it did. -/
def heapRefillsSpec : ChangeSpec := { name := "heapRefills", fn := fun _ => fun
  | [d1, d2, d3] => { results := [.lit (.bool true)], args := [d1, d2, d3] }
  | _ => none }
def heapRefillsRow : OpenClaim := { program := "ytooalgnppnmeaaa", sum := "519d408d50890cfa182a25da0b6381bf872d2c2358ba6010bc4b88b1d5d32be3", func := "ropewalk/ropewalklaw11.HeapRefills", spec := "heapRefills", unfollowed := true, recurses := true, apart := false }
def HeapRefillsSaid : Prop := heapRefillsRow.holds Try.pinned (OpenSpec.ofChange heapRefillsSpec)

/-- ITS FALSE NEIGHBOUR: 'it returns false'. Refute it at one input. -/
def heapRefillsWrong : ChangeSpec := { name := "heapRefills", fn := fun _ => fun
  | [d1, d2, d3] => { results := [.lit (.bool false)], args := [d1, d2, d3] }
  | _ => none }
def HeapRefillsWrongFalsely : Prop := heapRefillsRow.holds Try.pinned (OpenSpec.ofChange heapRefillsWrong)

/-- 'ropewalklaw12.SlideLives': WHATEVER THE INPUT: true; the input reads as it did. -/
def slideLivesSpec : ChangeSpec := { name := "slideLives", fn := fun _ => fun
  | [d1, d2] => { results := [.lit (.bool true)], args := [d1, d2] }
  | _ => none }
def slideLivesRow : OpenClaim := { program := "ytooalgnppnmeaaa", sum := "519d408d50890cfa182a25da0b6381bf872d2c2358ba6010bc4b88b1d5d32be3", func := "ropewalk/ropewalklaw12.SlideLives", spec := "slideLives", unfollowed := true, recurses := true, apart := false }
def SlideLivesSaid : Prop := slideLivesRow.holds Try.pinned (OpenSpec.ofChange slideLivesSpec)

/-- ITS FALSE NEIGHBOUR: 'it returns false'. Refute it at one input. -/
def slideLivesWrong : ChangeSpec := { name := "slideLives", fn := fun _ => fun
  | [d1, d2] => { results := [.lit (.bool false)], args := [d1, d2] }
  | _ => none }
def SlideLivesWrongFalsely : Prop := slideLivesRow.holds Try.pinned (OpenSpec.ofChange slideLivesWrong)

/-- 'ropewalklaw12.SlideCollects': WHATEVER THE INPUT: true; the input reads as it did. -/
def slideCollectsSpec : ChangeSpec := { name := "slideCollects", fn := fun _ => fun
  | [d1, d2, d3] => { results := [.lit (.bool true)], args := [d1, d2, d3] }
  | _ => none }
def slideCollectsRow : OpenClaim := { program := "ytooalgnppnmeaaa", sum := "519d408d50890cfa182a25da0b6381bf872d2c2358ba6010bc4b88b1d5d32be3", func := "ropewalk/ropewalklaw12.SlideCollects", spec := "slideCollects", unfollowed := true, recurses := true, apart := false }
def SlideCollectsSaid : Prop := slideCollectsRow.holds Try.pinned (OpenSpec.ofChange slideCollectsSpec)

/-- ITS FALSE NEIGHBOUR: 'it returns false'. Refute it at one input. -/
def slideCollectsWrong : ChangeSpec := { name := "slideCollects", fn := fun _ => fun
  | [d1, d2, d3] => { results := [.lit (.bool false)], args := [d1, d2, d3] }
  | _ => none }
def SlideCollectsWrongFalsely : Prop := slideCollectsRow.holds Try.pinned (OpenSpec.ofChange slideCollectsWrong)

/-- 'ropewalklaw12.SlideTerms': WHATEVER THE INPUT: true; the input reads as it did. -/
def slideTermsSpec : ChangeSpec := { name := "slideTerms", fn := fun _ => fun
  | [d1, d2] => { results := [.lit (.bool true)], args := [d1, d2] }
  | _ => none }
def slideTermsRow : OpenClaim := { program := "ytooalgnppnmeaaa", sum := "519d408d50890cfa182a25da0b6381bf872d2c2358ba6010bc4b88b1d5d32be3", func := "ropewalk/ropewalklaw12.SlideTerms", spec := "slideTerms", unfollowed := true, recurses := true, apart := false }
def SlideTermsSaid : Prop := slideTermsRow.holds Try.pinned (OpenSpec.ofChange slideTermsSpec)

/-- ITS FALSE NEIGHBOUR: 'it returns false'. Refute it at one input. -/
def slideTermsWrong : ChangeSpec := { name := "slideTerms", fn := fun _ => fun
  | [d1, d2] => { results := [.lit (.bool false)], args := [d1, d2] }
  | _ => none }
def SlideTermsWrongFalsely : Prop := slideTermsRow.holds Try.pinned (OpenSpec.ofChange slideTermsWrong)

/-- 'ropewalklaw12.SlideOrder': WHATEVER THE INPUT: true; the input reads as it did. -/
def slideOrderSpec : ChangeSpec := { name := "slideOrder", fn := fun _ => fun
  | [d1, d2] => { results := [.lit (.bool true)], args := [d1, d2] }
  | _ => none }
def slideOrderRow : OpenClaim := { program := "ytooalgnppnmeaaa", sum := "519d408d50890cfa182a25da0b6381bf872d2c2358ba6010bc4b88b1d5d32be3", func := "ropewalk/ropewalklaw12.SlideOrder", spec := "slideOrder", unfollowed := true, recurses := true, apart := false }
def SlideOrderSaid : Prop := slideOrderRow.holds Try.pinned (OpenSpec.ofChange slideOrderSpec)

/-- ITS FALSE NEIGHBOUR: 'it returns false'. Refute it at one input. -/
def slideOrderWrong : ChangeSpec := { name := "slideOrder", fn := fun _ => fun
  | [d1, d2] => { results := [.lit (.bool false)], args := [d1, d2] }
  | _ => none }
def SlideOrderWrongFalsely : Prop := slideOrderRow.holds Try.pinned (OpenSpec.ofChange slideOrderWrong)

/-- 'ropewalklaw12.SlideAgain': WHATEVER THE INPUT: true; the input reads as it did. -/
def slideAgainSpec : ChangeSpec := { name := "slideAgain", fn := fun _ => fun
  | [d1, d2] => { results := [.lit (.bool true)], args := [d1, d2] }
  | _ => none }
def slideAgainRow : OpenClaim := { program := "ytooalgnppnmeaaa", sum := "519d408d50890cfa182a25da0b6381bf872d2c2358ba6010bc4b88b1d5d32be3", func := "ropewalk/ropewalklaw12.SlideAgain", spec := "slideAgain", unfollowed := true, recurses := true, apart := false }
def SlideAgainSaid : Prop := slideAgainRow.holds Try.pinned (OpenSpec.ofChange slideAgainSpec)

/-- ITS FALSE NEIGHBOUR: 'it returns false'. Refute it at one input. -/
def slideAgainWrong : ChangeSpec := { name := "slideAgain", fn := fun _ => fun
  | [d1, d2] => { results := [.lit (.bool false)], args := [d1, d2] }
  | _ => none }
def SlideAgainWrongFalsely : Prop := slideAgainRow.holds Try.pinned (OpenSpec.ofChange slideAgainWrong)

/-- 'ropewalklaw12.SlideGrows': WHATEVER THE INPUT: true; the input reads as it did. -/
def slideGrowsSpec : ChangeSpec := { name := "slideGrows", fn := fun _ => fun
  | [d1, d2, d3] => { results := [.lit (.bool true)], args := [d1, d2, d3] }
  | _ => none }
def slideGrowsRow : OpenClaim := { program := "ytooalgnppnmeaaa", sum := "519d408d50890cfa182a25da0b6381bf872d2c2358ba6010bc4b88b1d5d32be3", func := "ropewalk/ropewalklaw12.SlideGrows", spec := "slideGrows", unfollowed := true, recurses := true, apart := false }
def SlideGrowsSaid : Prop := slideGrowsRow.holds Try.pinned (OpenSpec.ofChange slideGrowsSpec)

/-- ITS FALSE NEIGHBOUR: 'it returns false'. Refute it at one input. -/
def slideGrowsWrong : ChangeSpec := { name := "slideGrows", fn := fun _ => fun
  | [d1, d2, d3] => { results := [.lit (.bool false)], args := [d1, d2, d3] }
  | _ => none }
def SlideGrowsWrongFalsely : Prop := slideGrowsRow.holds Try.pinned (OpenSpec.ofChange slideGrowsWrong)

/-- 'ropewalklaw12.SlideNone': WHATEVER THE INPUT: true; the input reads as it did. -/
def slideNoneSpec : ChangeSpec := { name := "slideNone", fn := fun _ => fun
  | [] => { results := [.lit (.bool true)], args := [] }
  | _ => none }
def slideNoneRow : OpenClaim := { program := "ytooalgnppnmeaaa", sum := "519d408d50890cfa182a25da0b6381bf872d2c2358ba6010bc4b88b1d5d32be3", func := "ropewalk/ropewalklaw12.SlideNone", spec := "slideNone", unfollowed := true, recurses := true, apart := false }
def SlideNoneSaid : Prop := slideNoneRow.holds Try.pinned (OpenSpec.ofChange slideNoneSpec)

/-- ITS FALSE NEIGHBOUR: 'it returns false'. Refute it at one input. -/
def slideNoneWrong : ChangeSpec := { name := "slideNone", fn := fun _ => fun
  | [] => { results := [.lit (.bool false)], args := [] }
  | _ => none }
def SlideNoneWrongFalsely : Prop := slideNoneRow.holds Try.pinned (OpenSpec.ofChange slideNoneWrong)

/-- 'ropewalklaw12.SlideUnseen': WHATEVER THE INPUT: true; the input reads as it did. -/
def slideUnseenSpec : ChangeSpec := { name := "slideUnseen", fn := fun _ => fun
  | [d] => { results := [.lit (.bool true)], args := [d] }
  | _ => none }
def slideUnseenRow : OpenClaim := { program := "ytooalgnppnmeaaa", sum := "519d408d50890cfa182a25da0b6381bf872d2c2358ba6010bc4b88b1d5d32be3", func := "ropewalk/ropewalklaw12.SlideUnseen", spec := "slideUnseen", unfollowed := true, recurses := true, apart := false }
def SlideUnseenSaid : Prop := slideUnseenRow.holds Try.pinned (OpenSpec.ofChange slideUnseenSpec)

/-- ITS FALSE NEIGHBOUR: 'it returns false'. Refute it at one input. -/
def slideUnseenWrong : ChangeSpec := { name := "slideUnseen", fn := fun _ => fun
  | [d] => { results := [.lit (.bool false)], args := [d] }
  | _ => none }
def SlideUnseenWrongFalsely : Prop := slideUnseenRow.holds Try.pinned (OpenSpec.ofChange slideUnseenWrong)

/- THE SECOND FORM. 'bulk': how many values and letters a reading holds, each counted each time it is reached (what is shared counts as often as it is met; a slice's spare places count too). A statement '..UptoSaid' is the law's where the arguments, and the package variables that the reading takes, are together of bulk at most 1048576: NARROWER than '..Said'. Prove '..Said' where nothing that the law and all that it calls make is longer than what came in: it says more and counts as full. Else prove '..UptoSaid'. A law counts once. -/
mutual
def uptoBulk {H : Type} : DataW H → Nat
  | .lit (.string bytes) => bytes.length + 1
  | .lit _ => 1
  | .nil => 1
  | .ptr d => uptoBulk d + 1
  | .slice elems spare => uptoBulkAll elems + uptoBulkAll spare + 1
  | .agg parts => uptoBulkAll parts + 1
  | .iface _ d => uptoBulk d + 1
  | .map entries => uptoBulkEntries entries + 1
  | .held _ => 1
def uptoBulkAll {H : Type} : List (DataW H) → Nat
  | [] => 0
  | d :: r => uptoBulk d + uptoBulkAll r
def uptoBulkEntries {H : Type} : List (Lit × DataW H) → Nat
  | [] => 0
  | x :: r => uptoBulkEntry x + uptoBulkEntries r
def uptoBulkEntry {H : Type} : Lit × DataW H → Nat
  | (.string bytes, d) => bytes.length + uptoBulk d + 1
  | (_, d) => uptoBulk d + 1
 end
def uptoSmall : (H : Type) → List (DataW H) → Bool := fun _ ds => decide (uptoBulkAll ds ≤ 1048576)
def OpenSpec.upto (s : _root_.Go.ChangeSpec) : _root_.Go.OpenSpec := { _root_.Go.OpenSpec.ofChange s with cond := some uptoSmall }

/-- 'ropewalklaw11.HeapFull', WHERE WHAT IT READS IS OF BULK AT MOST 1048576: true; the input reads as it did. -/
def heapFullUptoRow : OpenClaim := { program := "ytooalgnppnmeaaa", sum := "519d408d50890cfa182a25da0b6381bf872d2c2358ba6010bc4b88b1d5d32be3", func := "ropewalk/ropewalklaw11.HeapFull", spec := "heapFull", apart := false, narrowed := true }
def HeapFullUptoSaid : Prop := heapFullUptoRow.holds Try.pinned (OpenSpec.upto heapFullSpec)

/-- 'ropewalklaw11.HeapRings', WHERE WHAT IT READS IS OF BULK AT MOST 1048576: true; the input reads as it did. -/
def heapRingsUptoRow : OpenClaim := { program := "ytooalgnppnmeaaa", sum := "519d408d50890cfa182a25da0b6381bf872d2c2358ba6010bc4b88b1d5d32be3", func := "ropewalk/ropewalklaw11.HeapRings", spec := "heapRings", apart := false, narrowed := true }
def HeapRingsUptoSaid : Prop := heapRingsUptoRow.holds Try.pinned (OpenSpec.upto heapRingsSpec)

/-- 'ropewalklaw11.HeapKeeps', WHERE WHAT IT READS IS OF BULK AT MOST 1048576: true; the input reads as it did. -/
def heapKeepsUptoRow : OpenClaim := { program := "ytooalgnppnmeaaa", sum := "519d408d50890cfa182a25da0b6381bf872d2c2358ba6010bc4b88b1d5d32be3", func := "ropewalk/ropewalklaw11.HeapKeeps", spec := "heapKeeps", apart := false, narrowed := true }
def HeapKeepsUptoSaid : Prop := heapKeepsUptoRow.holds Try.pinned (OpenSpec.upto heapKeepsSpec)

/-- 'ropewalklaw11.HeapResolves', WHERE WHAT IT READS IS OF BULK AT MOST 1048576: true; the input reads as it did. -/
def heapResolvesUptoRow : OpenClaim := { program := "ytooalgnppnmeaaa", sum := "519d408d50890cfa182a25da0b6381bf872d2c2358ba6010bc4b88b1d5d32be3", func := "ropewalk/ropewalklaw11.HeapResolves", spec := "heapResolves", apart := false, narrowed := true }
def HeapResolvesUptoSaid : Prop := heapResolvesUptoRow.holds Try.pinned (OpenSpec.upto heapResolvesSpec)

/-- 'ropewalklaw11.HeapRanges', WHERE WHAT IT READS IS OF BULK AT MOST 1048576: true; the input reads as it did. -/
def heapRangesUptoRow : OpenClaim := { program := "ytooalgnppnmeaaa", sum := "519d408d50890cfa182a25da0b6381bf872d2c2358ba6010bc4b88b1d5d32be3", func := "ropewalk/ropewalklaw11.HeapRanges", spec := "heapRanges", unfollowed := true, recurses := true, apart := false, narrowed := true }
def HeapRangesUptoSaid : Prop := heapRangesUptoRow.holds Try.pinned (OpenSpec.upto heapRangesSpec)

/-- 'ropewalklaw11.HeapBack', WHERE WHAT IT READS IS OF BULK AT MOST 1048576: true; the input reads as it did. -/
def heapBackUptoRow : OpenClaim := { program := "ytooalgnppnmeaaa", sum := "519d408d50890cfa182a25da0b6381bf872d2c2358ba6010bc4b88b1d5d32be3", func := "ropewalk/ropewalklaw11.HeapBack", spec := "heapBack", apart := false, narrowed := true }
def HeapBackUptoSaid : Prop := heapBackUptoRow.holds Try.pinned (OpenSpec.upto heapBackSpec)

/-- 'ropewalklaw11.HeapPlays', WHERE WHAT IT READS IS OF BULK AT MOST 1048576: true; the input reads as it did. -/
def heapPlaysUptoRow : OpenClaim := { program := "ytooalgnppnmeaaa", sum := "519d408d50890cfa182a25da0b6381bf872d2c2358ba6010bc4b88b1d5d32be3", func := "ropewalk/ropewalklaw11.HeapPlays", spec := "heapPlays", unfollowed := true, recurses := true, apart := false, narrowed := true }
def HeapPlaysUptoSaid : Prop := heapPlaysUptoRow.holds Try.pinned (OpenSpec.upto heapPlaysSpec)

/-- 'ropewalklaw11.HeapRefills', WHERE WHAT IT READS IS OF BULK AT MOST 1048576: true; the input reads as it did. -/
def heapRefillsUptoRow : OpenClaim := { program := "ytooalgnppnmeaaa", sum := "519d408d50890cfa182a25da0b6381bf872d2c2358ba6010bc4b88b1d5d32be3", func := "ropewalk/ropewalklaw11.HeapRefills", spec := "heapRefills", unfollowed := true, recurses := true, apart := false, narrowed := true }
def HeapRefillsUptoSaid : Prop := heapRefillsUptoRow.holds Try.pinned (OpenSpec.upto heapRefillsSpec)

/-- 'ropewalklaw12.SlideLives', WHERE WHAT IT READS IS OF BULK AT MOST 1048576: true; the input reads as it did. -/
def slideLivesUptoRow : OpenClaim := { program := "ytooalgnppnmeaaa", sum := "519d408d50890cfa182a25da0b6381bf872d2c2358ba6010bc4b88b1d5d32be3", func := "ropewalk/ropewalklaw12.SlideLives", spec := "slideLives", unfollowed := true, recurses := true, apart := false, narrowed := true }
def SlideLivesUptoSaid : Prop := slideLivesUptoRow.holds Try.pinned (OpenSpec.upto slideLivesSpec)

/-- 'ropewalklaw12.SlideCollects', WHERE WHAT IT READS IS OF BULK AT MOST 1048576: true; the input reads as it did. -/
def slideCollectsUptoRow : OpenClaim := { program := "ytooalgnppnmeaaa", sum := "519d408d50890cfa182a25da0b6381bf872d2c2358ba6010bc4b88b1d5d32be3", func := "ropewalk/ropewalklaw12.SlideCollects", spec := "slideCollects", unfollowed := true, recurses := true, apart := false, narrowed := true }
def SlideCollectsUptoSaid : Prop := slideCollectsUptoRow.holds Try.pinned (OpenSpec.upto slideCollectsSpec)

/-- 'ropewalklaw12.SlideTerms', WHERE WHAT IT READS IS OF BULK AT MOST 1048576: true; the input reads as it did. -/
def slideTermsUptoRow : OpenClaim := { program := "ytooalgnppnmeaaa", sum := "519d408d50890cfa182a25da0b6381bf872d2c2358ba6010bc4b88b1d5d32be3", func := "ropewalk/ropewalklaw12.SlideTerms", spec := "slideTerms", unfollowed := true, recurses := true, apart := false, narrowed := true }
def SlideTermsUptoSaid : Prop := slideTermsUptoRow.holds Try.pinned (OpenSpec.upto slideTermsSpec)

/-- 'ropewalklaw12.SlideOrder', WHERE WHAT IT READS IS OF BULK AT MOST 1048576: true; the input reads as it did. -/
def slideOrderUptoRow : OpenClaim := { program := "ytooalgnppnmeaaa", sum := "519d408d50890cfa182a25da0b6381bf872d2c2358ba6010bc4b88b1d5d32be3", func := "ropewalk/ropewalklaw12.SlideOrder", spec := "slideOrder", unfollowed := true, recurses := true, apart := false, narrowed := true }
def SlideOrderUptoSaid : Prop := slideOrderUptoRow.holds Try.pinned (OpenSpec.upto slideOrderSpec)

/-- 'ropewalklaw12.SlideAgain', WHERE WHAT IT READS IS OF BULK AT MOST 1048576: true; the input reads as it did. -/
def slideAgainUptoRow : OpenClaim := { program := "ytooalgnppnmeaaa", sum := "519d408d50890cfa182a25da0b6381bf872d2c2358ba6010bc4b88b1d5d32be3", func := "ropewalk/ropewalklaw12.SlideAgain", spec := "slideAgain", unfollowed := true, recurses := true, apart := false, narrowed := true }
def SlideAgainUptoSaid : Prop := slideAgainUptoRow.holds Try.pinned (OpenSpec.upto slideAgainSpec)

/-- 'ropewalklaw12.SlideGrows', WHERE WHAT IT READS IS OF BULK AT MOST 1048576: true; the input reads as it did. -/
def slideGrowsUptoRow : OpenClaim := { program := "ytooalgnppnmeaaa", sum := "519d408d50890cfa182a25da0b6381bf872d2c2358ba6010bc4b88b1d5d32be3", func := "ropewalk/ropewalklaw12.SlideGrows", spec := "slideGrows", unfollowed := true, recurses := true, apart := false, narrowed := true }
def SlideGrowsUptoSaid : Prop := slideGrowsUptoRow.holds Try.pinned (OpenSpec.upto slideGrowsSpec)

/-- 'ropewalklaw12.SlideNone', WHERE WHAT IT READS IS OF BULK AT MOST 1048576: true; the input reads as it did. -/
def slideNoneUptoRow : OpenClaim := { program := "ytooalgnppnmeaaa", sum := "519d408d50890cfa182a25da0b6381bf872d2c2358ba6010bc4b88b1d5d32be3", func := "ropewalk/ropewalklaw12.SlideNone", spec := "slideNone", unfollowed := true, recurses := true, apart := false, narrowed := true }
def SlideNoneUptoSaid : Prop := slideNoneUptoRow.holds Try.pinned (OpenSpec.upto slideNoneSpec)

/-- 'ropewalklaw12.SlideUnseen', WHERE WHAT IT READS IS OF BULK AT MOST 1048576: true; the input reads as it did. -/
def slideUnseenUptoRow : OpenClaim := { program := "ytooalgnppnmeaaa", sum := "519d408d50890cfa182a25da0b6381bf872d2c2358ba6010bc4b88b1d5d32be3", func := "ropewalk/ropewalklaw12.SlideUnseen", spec := "slideUnseen", unfollowed := true, recurses := true, apart := false, narrowed := true }
def SlideUnseenUptoSaid : Prop := slideUnseenUptoRow.holds Try.pinned (OpenSpec.upto slideUnseenSpec)

end Rows
end Go.Proofs.Ytooalgnppnmeaaa
