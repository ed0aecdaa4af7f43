/-
  No cell of these rows narrows 'for every input' (looked for: loops, veiled, ifaces, maps, wideKeys, modest, calm, conditions, laid).
  DERIVED. THE GIVEN ROWS OF THIS SEAT. 12 by the template 'for every input the law returns true; each argument reads behind the call as it read before'; 0 by the template 'total and deterministic' (their statements: YtfnnhjnhccbglaaTotals.lean).
  GIVEN WITH THE SEED: the statements are not yours to turn. If you find one false, say at which input.
  Laid BY PROGRAM, IN A SANDBOX (cutbox-rows.mjs): the forced cells as the released guide's own fill.sh prints them over the translation 1a794521c0097e6e… (all of the seat's roots in one cut). By AI agents, Wed Nov 11 2026. No macro, syntax, notation, axiom, sorry.
-/
import Derived.Test.YtfnnhjnhccbglaaChecked
import GoSem.Claim
import GoSem.ClaimJoined
import GoSem.ClaimMapViews
import Derived.JoinedTies
import Derived.KernelRfl
namespace Go.Proofs.Ytfnnhjnhccbglaa
/- THE CELL 'sum', in the pinned program and in every row, IS THE sha256 OF THE DUMP (.gsa) THAT YtfnnhjnhccbglaaProg.lean LOADS. Nothing in Lean hashes anything: it is a label: what it is worth is what the hold of that sum in a sandbox is worth. -/
noncomputable def Try.pinned : Pinned := { name := "ytfnnhjnhccbglaa", sum := "1a794521c0097e6e139b31dd163604fa142fb282bb22bf1898492ade58417652", checked := Try.checked }
namespace Rows
def none {H : Type} : Left H := { results := [], args := [] }

/-- 'rondellaw04.ImagePlays': WHATEVER THE INPUT: true; the input reads as it did. -/
def imagePlaysSpec : ChangeSpec := { name := "imagePlays", fn := fun _ => fun
  | [d1, d2, d3, d4, d5] => { results := [.lit (.bool true)], args := [d1, d2, d3, d4, d5] }
  | _ => none }
def imagePlaysRow : OpenClaim := { program := "ytfnnhjnhccbglaa", sum := "1a794521c0097e6e139b31dd163604fa142fb282bb22bf1898492ade58417652", func := "rondel/rondellaw04.ImagePlays", spec := "imagePlays", unfollowed := true, recurses := true, apart := false }
def ImagePlaysSaid : Prop := imagePlaysRow.holds Try.pinned (OpenSpec.ofChange imagePlaysSpec)

/-- ITS FALSE NEIGHBOUR: 'it returns false'. Refute it at one input. -/
def imagePlaysWrong : ChangeSpec := { name := "imagePlays", fn := fun _ => fun
  | [d1, d2, d3, d4, d5] => { results := [.lit (.bool false)], args := [d1, d2, d3, d4, d5] }
  | _ => none }
def ImagePlaysWrongFalsely : Prop := imagePlaysRow.holds Try.pinned (OpenSpec.ofChange imagePlaysWrong)

/-- 'rondellaw19.NaivePixels': WHATEVER THE INPUT: true; the input reads as it did. -/
def naivePixelsSpec : ChangeSpec := { name := "naivePixels", fn := fun _ => fun
  | [d1, d2, d3, d4] => { results := [.lit (.bool true)], args := [d1, d2, d3, d4] }
  | _ => none }
def naivePixelsRow : OpenClaim := { program := "ytfnnhjnhccbglaa", sum := "1a794521c0097e6e139b31dd163604fa142fb282bb22bf1898492ade58417652", func := "rondel/rondellaw19.NaivePixels", spec := "naivePixels", unfollowed := true, recurses := true, apart := false }
def NaivePixelsSaid : Prop := naivePixelsRow.holds Try.pinned (OpenSpec.ofChange naivePixelsSpec)

/-- ITS FALSE NEIGHBOUR: 'it returns false'. Refute it at one input. -/
def naivePixelsWrong : ChangeSpec := { name := "naivePixels", fn := fun _ => fun
  | [d1, d2, d3, d4] => { results := [.lit (.bool false)], args := [d1, d2, d3, d4] }
  | _ => none }
def NaivePixelsWrongFalsely : Prop := naivePixelsRow.holds Try.pinned (OpenSpec.ofChange naivePixelsWrong)

/-- 'rondellaw04.ImageBytes': WHATEVER THE INPUT: true; the input reads as it did. -/
def imageBytesSpec : ChangeSpec := { name := "imageBytes", fn := fun _ => fun
  | [d1, d2, d3, d4] => { results := [.lit (.bool true)], args := [d1, d2, d3, d4] }
  | _ => none }
def imageBytesRow : OpenClaim := { program := "ytfnnhjnhccbglaa", sum := "1a794521c0097e6e139b31dd163604fa142fb282bb22bf1898492ade58417652", func := "rondel/rondellaw04.ImageBytes", spec := "imageBytes", unfollowed := true, recurses := true, apart := false }
def ImageBytesSaid : Prop := imageBytesRow.holds Try.pinned (OpenSpec.ofChange imageBytesSpec)

/-- ITS FALSE NEIGHBOUR: 'it returns false'. Refute it at one input. -/
def imageBytesWrong : ChangeSpec := { name := "imageBytes", fn := fun _ => fun
  | [d1, d2, d3, d4] => { results := [.lit (.bool false)], args := [d1, d2, d3, d4] }
  | _ => none }
def ImageBytesWrongFalsely : Prop := imageBytesRow.holds Try.pinned (OpenSpec.ofChange imageBytesWrong)

/-- 'rondellaw19.NaiveCounts': WHATEVER THE INPUT: true; the input reads as it did. -/
def naiveCountsSpec : ChangeSpec := { name := "naiveCounts", fn := fun _ => fun
  | [d1, d2, d3, d4] => { results := [.lit (.bool true)], args := [d1, d2, d3, d4] }
  | _ => none }
def naiveCountsRow : OpenClaim := { program := "ytfnnhjnhccbglaa", sum := "1a794521c0097e6e139b31dd163604fa142fb282bb22bf1898492ade58417652", func := "rondel/rondellaw19.NaiveCounts", spec := "naiveCounts", unfollowed := true, recurses := true, apart := false }
def NaiveCountsSaid : Prop := naiveCountsRow.holds Try.pinned (OpenSpec.ofChange naiveCountsSpec)

/-- ITS FALSE NEIGHBOUR: 'it returns false'. Refute it at one input. -/
def naiveCountsWrong : ChangeSpec := { name := "naiveCounts", fn := fun _ => fun
  | [d1, d2, d3, d4] => { results := [.lit (.bool false)], args := [d1, d2, d3, d4] }
  | _ => none }
def NaiveCountsWrongFalsely : Prop := naiveCountsRow.holds Try.pinned (OpenSpec.ofChange naiveCountsWrong)

/-- 'rondellaw19.NaiveTops': WHATEVER THE INPUT: true; the input reads as it did. -/
def naiveTopsSpec : ChangeSpec := { name := "naiveTops", fn := fun _ => fun
  | [d1, d2, d3, d4] => { results := [.lit (.bool true)], args := [d1, d2, d3, d4] }
  | _ => none }
def naiveTopsRow : OpenClaim := { program := "ytfnnhjnhccbglaa", sum := "1a794521c0097e6e139b31dd163604fa142fb282bb22bf1898492ade58417652", func := "rondel/rondellaw19.NaiveTops", spec := "naiveTops", unfollowed := true, recurses := true, apart := false }
def NaiveTopsSaid : Prop := naiveTopsRow.holds Try.pinned (OpenSpec.ofChange naiveTopsSpec)

/-- ITS FALSE NEIGHBOUR: 'it returns false'. Refute it at one input. -/
def naiveTopsWrong : ChangeSpec := { name := "naiveTops", fn := fun _ => fun
  | [d1, d2, d3, d4] => { results := [.lit (.bool false)], args := [d1, d2, d3, d4] }
  | _ => none }
def NaiveTopsWrongFalsely : Prop := naiveTopsRow.holds Try.pinned (OpenSpec.ofChange naiveTopsWrong)

/-- 'rondellaw19.NaiveComposes': WHATEVER THE INPUT: true; the input reads as it did. -/
def naiveComposesSpec : ChangeSpec := { name := "naiveComposes", fn := fun _ => fun
  | [d1, d2, d3, d4, d5, d6] => { results := [.lit (.bool true)], args := [d1, d2, d3, d4, d5, d6] }
  | _ => none }
def naiveComposesRow : OpenClaim := { program := "ytfnnhjnhccbglaa", sum := "1a794521c0097e6e139b31dd163604fa142fb282bb22bf1898492ade58417652", func := "rondel/rondellaw19.NaiveComposes", spec := "naiveComposes", unfollowed := true, recurses := true, apart := false }
def NaiveComposesSaid : Prop := naiveComposesRow.holds Try.pinned (OpenSpec.ofChange naiveComposesSpec)

/-- ITS FALSE NEIGHBOUR: 'it returns false'. Refute it at one input. -/
def naiveComposesWrong : ChangeSpec := { name := "naiveComposes", fn := fun _ => fun
  | [d1, d2, d3, d4, d5, d6] => { results := [.lit (.bool false)], args := [d1, d2, d3, d4, d5, d6] }
  | _ => none }
def NaiveComposesWrongFalsely : Prop := naiveComposesRow.holds Try.pinned (OpenSpec.ofChange naiveComposesWrong)

/-- 'rondellaw12.PoolNumbers': WHATEVER THE INPUT: true; the input reads as it did. -/
def poolNumbersSpec : ChangeSpec := { name := "poolNumbers", fn := fun _ => fun
  | [d] => { results := [.lit (.bool true)], args := [d] }
  | _ => none }
def poolNumbersRow : OpenClaim := { program := "ytfnnhjnhccbglaa", sum := "1a794521c0097e6e139b31dd163604fa142fb282bb22bf1898492ade58417652", func := "rondel/rondellaw12.PoolNumbers", spec := "poolNumbers", unfollowed := true, recurses := true, apart := false }
def PoolNumbersSaid : Prop := poolNumbersRow.holds Try.pinned (OpenSpec.ofChange poolNumbersSpec)

/-- ITS FALSE NEIGHBOUR: 'it returns false'. Refute it at one input. -/
def poolNumbersWrong : ChangeSpec := { name := "poolNumbers", fn := fun _ => fun
  | [d] => { results := [.lit (.bool false)], args := [d] }
  | _ => none }
def PoolNumbersWrongFalsely : Prop := poolNumbersRow.holds Try.pinned (OpenSpec.ofChange poolNumbersWrong)

/-- 'rondellaw12.PoolHeld': WHATEVER THE INPUT: true; the input reads as it did. -/
def poolHeldSpec : ChangeSpec := { name := "poolHeld", fn := fun _ => fun
  | [d1, d2, d3] => { results := [.lit (.bool true)], args := [d1, d2, d3] }
  | _ => none }
def poolHeldRow : OpenClaim := { program := "ytfnnhjnhccbglaa", sum := "1a794521c0097e6e139b31dd163604fa142fb282bb22bf1898492ade58417652", func := "rondel/rondellaw12.PoolHeld", spec := "poolHeld", unfollowed := true, recurses := true, apart := false }
def PoolHeldSaid : Prop := poolHeldRow.holds Try.pinned (OpenSpec.ofChange poolHeldSpec)

/-- ITS FALSE NEIGHBOUR: 'it returns false'. Refute it at one input. -/
def poolHeldWrong : ChangeSpec := { name := "poolHeld", fn := fun _ => fun
  | [d1, d2, d3] => { results := [.lit (.bool false)], args := [d1, d2, d3] }
  | _ => none }
def PoolHeldWrongFalsely : Prop := poolHeldRow.holds Try.pinned (OpenSpec.ofChange poolHeldWrong)

/-- 'rondellaw12.PoolNames': WHATEVER THE INPUT: true; the input reads as it did. -/
def poolNamesSpec : ChangeSpec := { name := "poolNames", fn := fun _ => fun
  | [d1, d2] => { results := [.lit (.bool true)], args := [d1, d2] }
  | _ => none }
def poolNamesRow : OpenClaim := { program := "ytfnnhjnhccbglaa", sum := "1a794521c0097e6e139b31dd163604fa142fb282bb22bf1898492ade58417652", func := "rondel/rondellaw12.PoolNames", spec := "poolNames", unfollowed := true, recurses := true, apart := false }
def PoolNamesSaid : Prop := poolNamesRow.holds Try.pinned (OpenSpec.ofChange poolNamesSpec)

/-- ITS FALSE NEIGHBOUR: 'it returns false'. Refute it at one input. -/
def poolNamesWrong : ChangeSpec := { name := "poolNames", fn := fun _ => fun
  | [d1, d2] => { results := [.lit (.bool false)], args := [d1, d2] }
  | _ => none }
def PoolNamesWrongFalsely : Prop := poolNamesRow.holds Try.pinned (OpenSpec.ofChange poolNamesWrong)

/-- 'rondellaw12.PoolPlays': WHATEVER THE INPUT: true; the input reads as it did. -/
def poolPlaysSpec : ChangeSpec := { name := "poolPlays", fn := fun _ => fun
  | [d] => { results := [.lit (.bool true)], args := [d] }
  | _ => none }
def poolPlaysRow : OpenClaim := { program := "ytfnnhjnhccbglaa", sum := "1a794521c0097e6e139b31dd163604fa142fb282bb22bf1898492ade58417652", func := "rondel/rondellaw12.PoolPlays", spec := "poolPlays", unfollowed := true, recurses := true, apart := false }
def PoolPlaysSaid : Prop := poolPlaysRow.holds Try.pinned (OpenSpec.ofChange poolPlaysSpec)

/-- ITS FALSE NEIGHBOUR: 'it returns false'. Refute it at one input. -/
def poolPlaysWrong : ChangeSpec := { name := "poolPlays", fn := fun _ => fun
  | [d] => { results := [.lit (.bool false)], args := [d] }
  | _ => none }
def PoolPlaysWrongFalsely : Prop := poolPlaysRow.holds Try.pinned (OpenSpec.ofChange poolPlaysWrong)

/-- 'rondellaw17.PlanFew': WHATEVER THE INPUT: true; the input reads as it did. -/
def planFewSpec : ChangeSpec := { name := "planFew", fn := fun _ => fun
  | [d1, d2, d3, d4] => { results := [.lit (.bool true)], args := [d1, d2, d3, d4] }
  | _ => none }
def planFewRow : OpenClaim := { program := "ytfnnhjnhccbglaa", sum := "1a794521c0097e6e139b31dd163604fa142fb282bb22bf1898492ade58417652", func := "rondel/rondellaw17.PlanFew", spec := "planFew", unfollowed := true, recurses := true, apart := false }
def PlanFewSaid : Prop := planFewRow.holds Try.pinned (OpenSpec.ofChange planFewSpec)

/-- ITS FALSE NEIGHBOUR: 'it returns false'. Refute it at one input. -/
def planFewWrong : ChangeSpec := { name := "planFew", fn := fun _ => fun
  | [d1, d2, d3, d4] => { results := [.lit (.bool false)], args := [d1, d2, d3, d4] }
  | _ => none }
def PlanFewWrongFalsely : Prop := planFewRow.holds Try.pinned (OpenSpec.ofChange planFewWrong)

/-- 'rondellaw17.PlanHidden': WHATEVER THE INPUT: true; the input reads as it did. -/
def planHiddenSpec : ChangeSpec := { name := "planHidden", fn := fun _ => fun
  | [d1, d2, d3] => { results := [.lit (.bool true)], args := [d1, d2, d3] }
  | _ => none }
def planHiddenRow : OpenClaim := { program := "ytfnnhjnhccbglaa", sum := "1a794521c0097e6e139b31dd163604fa142fb282bb22bf1898492ade58417652", func := "rondel/rondellaw17.PlanHidden", spec := "planHidden", unfollowed := true, recurses := true, apart := false }
def PlanHiddenSaid : Prop := planHiddenRow.holds Try.pinned (OpenSpec.ofChange planHiddenSpec)

/-- ITS FALSE NEIGHBOUR: 'it returns false'. Refute it at one input. -/
def planHiddenWrong : ChangeSpec := { name := "planHidden", fn := fun _ => fun
  | [d1, d2, d3] => { results := [.lit (.bool false)], args := [d1, d2, d3] }
  | _ => none }
def PlanHiddenWrongFalsely : Prop := planHiddenRow.holds Try.pinned (OpenSpec.ofChange planHiddenWrong)

/- THE SECOND FORM. 'bulk': how many values and letters a reading holds, each counted each time it is reached (what is shared counts as often as it is met; a slice's spare places count too). A statement '..UptoSaid' is the law's where the arguments, and the package variables that the reading takes, are together of bulk at most 1048576: NARROWER than '..Said'. Prove '..Said' where nothing that the law and all that it calls make is longer than what came in: it says more and counts as full. Else prove '..UptoSaid'. A law counts once. -/
mutual
def uptoBulk {H : Type} : DataW H → Nat
  | .lit (.string bytes) => bytes.length + 1
  | .lit _ => 1
  | .nil => 1
  | .ptr d => uptoBulk d + 1
  | .slice elems spare => uptoBulkAll elems + uptoBulkAll spare + 1
  | .agg parts => uptoBulkAll parts + 1
  | .iface _ d => uptoBulk d + 1
  | .map entries => uptoBulkEntries entries + 1
  | .held _ => 1
def uptoBulkAll {H : Type} : List (DataW H) → Nat
  | [] => 0
  | d :: r => uptoBulk d + uptoBulkAll r
def uptoBulkEntries {H : Type} : List (Lit × DataW H) → Nat
  | [] => 0
  | x :: r => uptoBulkEntry x + uptoBulkEntries r
def uptoBulkEntry {H : Type} : Lit × DataW H → Nat
  | (.string bytes, d) => bytes.length + uptoBulk d + 1
  | (_, d) => uptoBulk d + 1
 end
def uptoSmall : (H : Type) → List (DataW H) → Bool := fun _ ds => decide (uptoBulkAll ds ≤ 1048576)
def OpenSpec.upto (s : _root_.Go.ChangeSpec) : _root_.Go.OpenSpec := { _root_.Go.OpenSpec.ofChange s with cond := some uptoSmall }

/-- 'rondellaw04.ImagePlays', WHERE WHAT IT READS IS OF BULK AT MOST 1048576: true; the input reads as it did. -/
def imagePlaysUptoRow : OpenClaim := { program := "ytfnnhjnhccbglaa", sum := "1a794521c0097e6e139b31dd163604fa142fb282bb22bf1898492ade58417652", func := "rondel/rondellaw04.ImagePlays", spec := "imagePlays", unfollowed := true, recurses := true, apart := false, narrowed := true }
def ImagePlaysUptoSaid : Prop := imagePlaysUptoRow.holds Try.pinned (OpenSpec.upto imagePlaysSpec)

/-- 'rondellaw19.NaivePixels', WHERE WHAT IT READS IS OF BULK AT MOST 1048576: true; the input reads as it did. -/
def naivePixelsUptoRow : OpenClaim := { program := "ytfnnhjnhccbglaa", sum := "1a794521c0097e6e139b31dd163604fa142fb282bb22bf1898492ade58417652", func := "rondel/rondellaw19.NaivePixels", spec := "naivePixels", unfollowed := true, recurses := true, apart := false, narrowed := true }
def NaivePixelsUptoSaid : Prop := naivePixelsUptoRow.holds Try.pinned (OpenSpec.upto naivePixelsSpec)

/-- 'rondellaw04.ImageBytes', WHERE WHAT IT READS IS OF BULK AT MOST 1048576: true; the input reads as it did. -/
def imageBytesUptoRow : OpenClaim := { program := "ytfnnhjnhccbglaa", sum := "1a794521c0097e6e139b31dd163604fa142fb282bb22bf1898492ade58417652", func := "rondel/rondellaw04.ImageBytes", spec := "imageBytes", unfollowed := true, recurses := true, apart := false, narrowed := true }
def ImageBytesUptoSaid : Prop := imageBytesUptoRow.holds Try.pinned (OpenSpec.upto imageBytesSpec)

/-- 'rondellaw19.NaiveCounts', WHERE WHAT IT READS IS OF BULK AT MOST 1048576: true; the input reads as it did. -/
def naiveCountsUptoRow : OpenClaim := { program := "ytfnnhjnhccbglaa", sum := "1a794521c0097e6e139b31dd163604fa142fb282bb22bf1898492ade58417652", func := "rondel/rondellaw19.NaiveCounts", spec := "naiveCounts", unfollowed := true, recurses := true, apart := false, narrowed := true }
def NaiveCountsUptoSaid : Prop := naiveCountsUptoRow.holds Try.pinned (OpenSpec.upto naiveCountsSpec)

/-- 'rondellaw19.NaiveTops', WHERE WHAT IT READS IS OF BULK AT MOST 1048576: true; the input reads as it did. -/
def naiveTopsUptoRow : OpenClaim := { program := "ytfnnhjnhccbglaa", sum := "1a794521c0097e6e139b31dd163604fa142fb282bb22bf1898492ade58417652", func := "rondel/rondellaw19.NaiveTops", spec := "naiveTops", unfollowed := true, recurses := true, apart := false, narrowed := true }
def NaiveTopsUptoSaid : Prop := naiveTopsUptoRow.holds Try.pinned (OpenSpec.upto naiveTopsSpec)

/-- 'rondellaw19.NaiveComposes', WHERE WHAT IT READS IS OF BULK AT MOST 1048576: true; the input reads as it did. -/
def naiveComposesUptoRow : OpenClaim := { program := "ytfnnhjnhccbglaa", sum := "1a794521c0097e6e139b31dd163604fa142fb282bb22bf1898492ade58417652", func := "rondel/rondellaw19.NaiveComposes", spec := "naiveComposes", unfollowed := true, recurses := true, apart := false, narrowed := true }
def NaiveComposesUptoSaid : Prop := naiveComposesUptoRow.holds Try.pinned (OpenSpec.upto naiveComposesSpec)

/-- 'rondellaw12.PoolNumbers', WHERE WHAT IT READS IS OF BULK AT MOST 1048576: true; the input reads as it did. -/
def poolNumbersUptoRow : OpenClaim := { program := "ytfnnhjnhccbglaa", sum := "1a794521c0097e6e139b31dd163604fa142fb282bb22bf1898492ade58417652", func := "rondel/rondellaw12.PoolNumbers", spec := "poolNumbers", unfollowed := true, recurses := true, apart := false, narrowed := true }
def PoolNumbersUptoSaid : Prop := poolNumbersUptoRow.holds Try.pinned (OpenSpec.upto poolNumbersSpec)

/-- 'rondellaw12.PoolHeld', WHERE WHAT IT READS IS OF BULK AT MOST 1048576: true; the input reads as it did. -/
def poolHeldUptoRow : OpenClaim := { program := "ytfnnhjnhccbglaa", sum := "1a794521c0097e6e139b31dd163604fa142fb282bb22bf1898492ade58417652", func := "rondel/rondellaw12.PoolHeld", spec := "poolHeld", unfollowed := true, recurses := true, apart := false, narrowed := true }
def PoolHeldUptoSaid : Prop := poolHeldUptoRow.holds Try.pinned (OpenSpec.upto poolHeldSpec)

/-- 'rondellaw12.PoolNames', WHERE WHAT IT READS IS OF BULK AT MOST 1048576: true; the input reads as it did. -/
def poolNamesUptoRow : OpenClaim := { program := "ytfnnhjnhccbglaa", sum := "1a794521c0097e6e139b31dd163604fa142fb282bb22bf1898492ade58417652", func := "rondel/rondellaw12.PoolNames", spec := "poolNames", unfollowed := true, recurses := true, apart := false, narrowed := true }
def PoolNamesUptoSaid : Prop := poolNamesUptoRow.holds Try.pinned (OpenSpec.upto poolNamesSpec)

/-- 'rondellaw12.PoolPlays', WHERE WHAT IT READS IS OF BULK AT MOST 1048576: true; the input reads as it did. -/
def poolPlaysUptoRow : OpenClaim := { program := "ytfnnhjnhccbglaa", sum := "1a794521c0097e6e139b31dd163604fa142fb282bb22bf1898492ade58417652", func := "rondel/rondellaw12.PoolPlays", spec := "poolPlays", unfollowed := true, recurses := true, apart := false, narrowed := true }
def PoolPlaysUptoSaid : Prop := poolPlaysUptoRow.holds Try.pinned (OpenSpec.upto poolPlaysSpec)

/-- 'rondellaw17.PlanFew', WHERE WHAT IT READS IS OF BULK AT MOST 1048576: true; the input reads as it did. -/
def planFewUptoRow : OpenClaim := { program := "ytfnnhjnhccbglaa", sum := "1a794521c0097e6e139b31dd163604fa142fb282bb22bf1898492ade58417652", func := "rondel/rondellaw17.PlanFew", spec := "planFew", unfollowed := true, recurses := true, apart := false, narrowed := true }
def PlanFewUptoSaid : Prop := planFewUptoRow.holds Try.pinned (OpenSpec.upto planFewSpec)

/-- 'rondellaw17.PlanHidden', WHERE WHAT IT READS IS OF BULK AT MOST 1048576: true; the input reads as it did. -/
def planHiddenUptoRow : OpenClaim := { program := "ytfnnhjnhccbglaa", sum := "1a794521c0097e6e139b31dd163604fa142fb282bb22bf1898492ade58417652", func := "rondel/rondellaw17.PlanHidden", spec := "planHidden", unfollowed := true, recurses := true, apart := false, narrowed := true }
def PlanHiddenUptoSaid : Prop := planHiddenUptoRow.holds Try.pinned (OpenSpec.upto planHiddenSpec)

end Rows
end Go.Proofs.Ytfnnhjnhccbglaa
