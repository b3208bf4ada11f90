/-
  No cell of these rows narrows 'for every input' (looked for: loops, veiled, ifaces, maps, wideKeys, modest, calm, conditions, laid).
  DERIVED. THE GIVEN ROWS OF THIS SEAT. 10 by the template 'for every input the law returns true; each argument reads behind the call as it read before'; 0 by the template 'total and deterministic' (their statements: YtcmobcbecbajiaaTotals.lean).
  GIVEN WITH THE SEED: the statements are not yours to turn. If you find one false, say at which input.
  Laid BY PROGRAM, IN A SANDBOX (cutbox-rows.mjs): the forced cells as the released guide's own fill.sh prints them over the translation 30f11419f9606028… (all of the seat's roots in one cut). By AI agents, Wed Nov 11 2026. No macro, syntax, notation, axiom, sorry.
-/
import Derived.Test.YtcmobcbecbajiaaChecked
import GoSem.Claim
import GoSem.ClaimJoined
import GoSem.ClaimMapViews
import Derived.JoinedTies
import Derived.KernelRfl
namespace Go.Proofs.Ytcmobcbecbajiaa
/- THE CELL 'sum', in the pinned program and in every row, IS THE sha256 OF THE DUMP (.gsa) THAT YtcmobcbecbajiaaProg.lean LOADS. Nothing in Lean hashes anything: it is a label: what it is worth is what the hold of that sum in a sandbox is worth. -/
noncomputable def Try.pinned : Pinned := { name := "ytcmobcbecbajiaa", sum := "30f11419f9606028dd382957a36bb6211aa2048e326688e31d1f82b35a2b7666", checked := Try.checked }
namespace Rows
def none {H : Type} : Left H := { results := [], args := [] }

/-- 'cellaretlaw15.ImagePlays': WHATEVER THE INPUT: true; the input reads as it did. -/
def imagePlaysSpec : ChangeSpec := { name := "imagePlays", fn := fun _ => fun
  | [d1, d2, d3, d4, d5] => { results := [.lit (.bool true)], args := [d1, d2, d3, d4, d5] }
  | _ => none }
def imagePlaysRow : OpenClaim := { program := "ytcmobcbecbajiaa", sum := "30f11419f9606028dd382957a36bb6211aa2048e326688e31d1f82b35a2b7666", func := "cellaret/cellaretlaw15.ImagePlays", spec := "imagePlays", unfollowed := true, recurses := true, apart := false }
def ImagePlaysSaid : Prop := imagePlaysRow.holds Try.pinned (OpenSpec.ofChange imagePlaysSpec)

/-- ITS FALSE NEIGHBOUR: 'it returns false'. Refute it at one input. -/
def imagePlaysWrong : ChangeSpec := { name := "imagePlays", fn := fun _ => fun
  | [d1, d2, d3, d4, d5] => { results := [.lit (.bool false)], args := [d1, d2, d3, d4, d5] }
  | _ => none }
def ImagePlaysWrongFalsely : Prop := imagePlaysRow.holds Try.pinned (OpenSpec.ofChange imagePlaysWrong)

/-- 'cellaretlaw9.RegionKnown': WHATEVER THE INPUT: true; the input reads as it did. -/
def regionKnownSpec : ChangeSpec := { name := "regionKnown", fn := fun _ => fun
  | [] => { results := [.lit (.bool true)], args := [] }
  | _ => none }
def regionKnownRow : OpenClaim := { program := "ytcmobcbecbajiaa", sum := "30f11419f9606028dd382957a36bb6211aa2048e326688e31d1f82b35a2b7666", func := "cellaret/cellaretlaw9.RegionKnown", spec := "regionKnown", unfollowed := true, recurses := true, apart := false }
def RegionKnownSaid : Prop := regionKnownRow.holds Try.pinned (OpenSpec.ofChange regionKnownSpec)

/-- ITS FALSE NEIGHBOUR: 'it returns false'. Refute it at one input. -/
def regionKnownWrong : ChangeSpec := { name := "regionKnown", fn := fun _ => fun
  | [] => { results := [.lit (.bool false)], args := [] }
  | _ => none }
def RegionKnownWrongFalsely : Prop := regionKnownRow.holds Try.pinned (OpenSpec.ofChange regionKnownWrong)

/-- 'cellaretlaw9.RegionNewest': WHATEVER THE INPUT: true; the input reads as it did. -/
def regionNewestSpec : ChangeSpec := { name := "regionNewest", fn := fun _ => fun
  | [d1, d2] => { results := [.lit (.bool true)], args := [d1, d2] }
  | _ => none }
def regionNewestRow : OpenClaim := { program := "ytcmobcbecbajiaa", sum := "30f11419f9606028dd382957a36bb6211aa2048e326688e31d1f82b35a2b7666", func := "cellaret/cellaretlaw9.RegionNewest", spec := "regionNewest", unfollowed := true, recurses := true, apart := false }
def RegionNewestSaid : Prop := regionNewestRow.holds Try.pinned (OpenSpec.ofChange regionNewestSpec)

/-- ITS FALSE NEIGHBOUR: 'it returns false'. Refute it at one input. -/
def regionNewestWrong : ChangeSpec := { name := "regionNewest", fn := fun _ => fun
  | [d1, d2] => { results := [.lit (.bool false)], args := [d1, d2] }
  | _ => none }
def RegionNewestWrongFalsely : Prop := regionNewestRow.holds Try.pinned (OpenSpec.ofChange regionNewestWrong)

/-- 'cellaretlaw9.RegionRounds': WHATEVER THE INPUT: true; the input reads as it did. -/
def regionRoundsSpec : ChangeSpec := { name := "regionRounds", fn := fun _ => fun
  | [d1, d2] => { results := [.lit (.bool true)], args := [d1, d2] }
  | _ => none }
def regionRoundsRow : OpenClaim := { program := "ytcmobcbecbajiaa", sum := "30f11419f9606028dd382957a36bb6211aa2048e326688e31d1f82b35a2b7666", func := "cellaret/cellaretlaw9.RegionRounds", spec := "regionRounds", unfollowed := true, recurses := true, apart := false }
def RegionRoundsSaid : Prop := regionRoundsRow.holds Try.pinned (OpenSpec.ofChange regionRoundsSpec)

/-- ITS FALSE NEIGHBOUR: 'it returns false'. Refute it at one input. -/
def regionRoundsWrong : ChangeSpec := { name := "regionRounds", fn := fun _ => fun
  | [d1, d2] => { results := [.lit (.bool false)], args := [d1, d2] }
  | _ => none }
def RegionRoundsWrongFalsely : Prop := regionRoundsRow.holds Try.pinned (OpenSpec.ofChange regionRoundsWrong)

/-- 'cellaretlaw9.RegionFalls': WHATEVER THE INPUT: true; the input reads as it did. -/
def regionFallsSpec : ChangeSpec := { name := "regionFalls", fn := fun _ => fun
  | [d] => { results := [.lit (.bool true)], args := [d] }
  | _ => none }
def regionFallsRow : OpenClaim := { program := "ytcmobcbecbajiaa", sum := "30f11419f9606028dd382957a36bb6211aa2048e326688e31d1f82b35a2b7666", func := "cellaret/cellaretlaw9.RegionFalls", spec := "regionFalls", unfollowed := true, recurses := true, apart := false }
def RegionFallsSaid : Prop := regionFallsRow.holds Try.pinned (OpenSpec.ofChange regionFallsSpec)

/-- ITS FALSE NEIGHBOUR: 'it returns false'. Refute it at one input. -/
def regionFallsWrong : ChangeSpec := { name := "regionFalls", fn := fun _ => fun
  | [d] => { results := [.lit (.bool false)], args := [d] }
  | _ => none }
def RegionFallsWrongFalsely : Prop := regionFallsRow.holds Try.pinned (OpenSpec.ofChange regionFallsWrong)

/-- 'cellaretlaw9.RegionSwaps': WHATEVER THE INPUT: true; the input reads as it did. -/
def regionSwapsSpec : ChangeSpec := { name := "regionSwaps", fn := fun _ => fun
  | [d1, d2, d3] => { results := [.lit (.bool true)], args := [d1, d2, d3] }
  | _ => none }
def regionSwapsRow : OpenClaim := { program := "ytcmobcbecbajiaa", sum := "30f11419f9606028dd382957a36bb6211aa2048e326688e31d1f82b35a2b7666", func := "cellaret/cellaretlaw9.RegionSwaps", spec := "regionSwaps", unfollowed := true, recurses := true, apart := false }
def RegionSwapsSaid : Prop := regionSwapsRow.holds Try.pinned (OpenSpec.ofChange regionSwapsSpec)

/-- ITS FALSE NEIGHBOUR: 'it returns false'. Refute it at one input. -/
def regionSwapsWrong : ChangeSpec := { name := "regionSwaps", fn := fun _ => fun
  | [d1, d2, d3] => { results := [.lit (.bool false)], args := [d1, d2, d3] }
  | _ => none }
def RegionSwapsWrongFalsely : Prop := regionSwapsRow.holds Try.pinned (OpenSpec.ofChange regionSwapsWrong)

/-- 'cellaretlaw9.RegionNumbers': WHATEVER THE INPUT: true; the input reads as it did. -/
def regionNumbersSpec : ChangeSpec := { name := "regionNumbers", fn := fun _ => fun
  | [d1, d2, d3, d4] => { results := [.lit (.bool true)], args := [d1, d2, d3, d4] }
  | _ => none }
def regionNumbersRow : OpenClaim := { program := "ytcmobcbecbajiaa", sum := "30f11419f9606028dd382957a36bb6211aa2048e326688e31d1f82b35a2b7666", func := "cellaret/cellaretlaw9.RegionNumbers", spec := "regionNumbers", unfollowed := true, recurses := true, apart := false }
def RegionNumbersSaid : Prop := regionNumbersRow.holds Try.pinned (OpenSpec.ofChange regionNumbersSpec)

/-- ITS FALSE NEIGHBOUR: 'it returns false'. Refute it at one input. -/
def regionNumbersWrong : ChangeSpec := { name := "regionNumbers", fn := fun _ => fun
  | [d1, d2, d3, d4] => { results := [.lit (.bool false)], args := [d1, d2, d3, d4] }
  | _ => none }
def RegionNumbersWrongFalsely : Prop := regionNumbersRow.holds Try.pinned (OpenSpec.ofChange regionNumbersWrong)

/-- 'cellaretlaw9.RegionSealed': WHATEVER THE INPUT: true; the input reads as it did. -/
def regionSealedSpec : ChangeSpec := { name := "regionSealed", fn := fun _ => fun
  | [d1, d2, d3, d4] => { results := [.lit (.bool true)], args := [d1, d2, d3, d4] }
  | _ => none }
def regionSealedRow : OpenClaim := { program := "ytcmobcbecbajiaa", sum := "30f11419f9606028dd382957a36bb6211aa2048e326688e31d1f82b35a2b7666", func := "cellaret/cellaretlaw9.RegionSealed", spec := "regionSealed", unfollowed := true, recurses := true, apart := false }
def RegionSealedSaid : Prop := regionSealedRow.holds Try.pinned (OpenSpec.ofChange regionSealedSpec)

/-- ITS FALSE NEIGHBOUR: 'it returns false'. Refute it at one input. -/
def regionSealedWrong : ChangeSpec := { name := "regionSealed", fn := fun _ => fun
  | [d1, d2, d3, d4] => { results := [.lit (.bool false)], args := [d1, d2, d3, d4] }
  | _ => none }
def RegionSealedWrongFalsely : Prop := regionSealedRow.holds Try.pinned (OpenSpec.ofChange regionSealedWrong)

/-- 'cellaretlaw9.RegionTwice': WHATEVER THE INPUT: true; the input reads as it did. -/
def regionTwiceSpec : ChangeSpec := { name := "regionTwice", fn := fun _ => fun
  | [d1, d2, d3, d4, d5, d6, d7] => { results := [.lit (.bool true)], args := [d1, d2, d3, d4, d5, d6, d7] }
  | _ => none }
def regionTwiceRow : OpenClaim := { program := "ytcmobcbecbajiaa", sum := "30f11419f9606028dd382957a36bb6211aa2048e326688e31d1f82b35a2b7666", func := "cellaret/cellaretlaw9.RegionTwice", spec := "regionTwice", unfollowed := true, recurses := true, apart := false }
def RegionTwiceSaid : Prop := regionTwiceRow.holds Try.pinned (OpenSpec.ofChange regionTwiceSpec)

/-- ITS FALSE NEIGHBOUR: 'it returns false'. Refute it at one input. -/
def regionTwiceWrong : ChangeSpec := { name := "regionTwice", fn := fun _ => fun
  | [d1, d2, d3, d4, d5, d6, d7] => { results := [.lit (.bool false)], args := [d1, d2, d3, d4, d5, d6, d7] }
  | _ => none }
def RegionTwiceWrongFalsely : Prop := regionTwiceRow.holds Try.pinned (OpenSpec.ofChange regionTwiceWrong)

/-- 'cellaretlaw9.RegionHalf': WHATEVER THE INPUT: true; the input reads as it did. -/
def regionHalfSpec : ChangeSpec := { name := "regionHalf", fn := fun _ => fun
  | [d1, d2, d3] => { results := [.lit (.bool true)], args := [d1, d2, d3] }
  | _ => none }
def regionHalfRow : OpenClaim := { program := "ytcmobcbecbajiaa", sum := "30f11419f9606028dd382957a36bb6211aa2048e326688e31d1f82b35a2b7666", func := "cellaret/cellaretlaw9.RegionHalf", spec := "regionHalf", unfollowed := true, recurses := true, apart := false }
def RegionHalfSaid : Prop := regionHalfRow.holds Try.pinned (OpenSpec.ofChange regionHalfSpec)

/-- ITS FALSE NEIGHBOUR: 'it returns false'. Refute it at one input. -/
def regionHalfWrong : ChangeSpec := { name := "regionHalf", fn := fun _ => fun
  | [d1, d2, d3] => { results := [.lit (.bool false)], args := [d1, d2, d3] }
  | _ => none }
def RegionHalfWrongFalsely : Prop := regionHalfRow.holds Try.pinned (OpenSpec.ofChange regionHalfWrong)

/- THE SECOND FORM. 'bulk': how many values and letters a reading holds, each counted each time it is reached (what is shared counts as often as it is met; a slice's spare places count too). A statement '..UptoSaid' is the law's where the arguments, and the package variables that the reading takes, are together of bulk at most 1048576: NARROWER than '..Said'. Prove '..Said' where nothing that the law and all that it calls make is longer than what came in: it says more and counts as full. Else prove '..UptoSaid'. A law counts once. -/
mutual
def uptoBulk {H : Type} : DataW H → Nat
  | .lit (.string bytes) => bytes.length + 1
  | .lit _ => 1
  | .nil => 1
  | .ptr d => uptoBulk d + 1
  | .slice elems spare => uptoBulkAll elems + uptoBulkAll spare + 1
  | .agg parts => uptoBulkAll parts + 1
  | .iface _ d => uptoBulk d + 1
  | .map entries => uptoBulkEntries entries + 1
  | .held _ => 1
def uptoBulkAll {H : Type} : List (DataW H) → Nat
  | [] => 0
  | d :: r => uptoBulk d + uptoBulkAll r
def uptoBulkEntries {H : Type} : List (Lit × DataW H) → Nat
  | [] => 0
  | x :: r => uptoBulkEntry x + uptoBulkEntries r
def uptoBulkEntry {H : Type} : Lit × DataW H → Nat
  | (.string bytes, d) => bytes.length + uptoBulk d + 1
  | (_, d) => uptoBulk d + 1
 end
def uptoSmall : (H : Type) → List (DataW H) → Bool := fun _ ds => decide (uptoBulkAll ds ≤ 1048576)
def OpenSpec.upto (s : _root_.Go.ChangeSpec) : _root_.Go.OpenSpec := { _root_.Go.OpenSpec.ofChange s with cond := some uptoSmall }

/-- 'cellaretlaw15.ImagePlays', WHERE WHAT IT READS IS OF BULK AT MOST 1048576: true; the input reads as it did. -/
def imagePlaysUptoRow : OpenClaim := { program := "ytcmobcbecbajiaa", sum := "30f11419f9606028dd382957a36bb6211aa2048e326688e31d1f82b35a2b7666", func := "cellaret/cellaretlaw15.ImagePlays", spec := "imagePlays", unfollowed := true, recurses := true, apart := false, narrowed := true }
def ImagePlaysUptoSaid : Prop := imagePlaysUptoRow.holds Try.pinned (OpenSpec.upto imagePlaysSpec)

/-- 'cellaretlaw9.RegionKnown', WHERE WHAT IT READS IS OF BULK AT MOST 1048576: true; the input reads as it did. -/
def regionKnownUptoRow : OpenClaim := { program := "ytcmobcbecbajiaa", sum := "30f11419f9606028dd382957a36bb6211aa2048e326688e31d1f82b35a2b7666", func := "cellaret/cellaretlaw9.RegionKnown", spec := "regionKnown", unfollowed := true, recurses := true, apart := false, narrowed := true }
def RegionKnownUptoSaid : Prop := regionKnownUptoRow.holds Try.pinned (OpenSpec.upto regionKnownSpec)

/-- 'cellaretlaw9.RegionNewest', WHERE WHAT IT READS IS OF BULK AT MOST 1048576: true; the input reads as it did. -/
def regionNewestUptoRow : OpenClaim := { program := "ytcmobcbecbajiaa", sum := "30f11419f9606028dd382957a36bb6211aa2048e326688e31d1f82b35a2b7666", func := "cellaret/cellaretlaw9.RegionNewest", spec := "regionNewest", unfollowed := true, recurses := true, apart := false, narrowed := true }
def RegionNewestUptoSaid : Prop := regionNewestUptoRow.holds Try.pinned (OpenSpec.upto regionNewestSpec)

/-- 'cellaretlaw9.RegionRounds', WHERE WHAT IT READS IS OF BULK AT MOST 1048576: true; the input reads as it did. -/
def regionRoundsUptoRow : OpenClaim := { program := "ytcmobcbecbajiaa", sum := "30f11419f9606028dd382957a36bb6211aa2048e326688e31d1f82b35a2b7666", func := "cellaret/cellaretlaw9.RegionRounds", spec := "regionRounds", unfollowed := true, recurses := true, apart := false, narrowed := true }
def RegionRoundsUptoSaid : Prop := regionRoundsUptoRow.holds Try.pinned (OpenSpec.upto regionRoundsSpec)

/-- 'cellaretlaw9.RegionFalls', WHERE WHAT IT READS IS OF BULK AT MOST 1048576: true; the input reads as it did. -/
def regionFallsUptoRow : OpenClaim := { program := "ytcmobcbecbajiaa", sum := "30f11419f9606028dd382957a36bb6211aa2048e326688e31d1f82b35a2b7666", func := "cellaret/cellaretlaw9.RegionFalls", spec := "regionFalls", unfollowed := true, recurses := true, apart := false, narrowed := true }
def RegionFallsUptoSaid : Prop := regionFallsUptoRow.holds Try.pinned (OpenSpec.upto regionFallsSpec)

/-- 'cellaretlaw9.RegionSwaps', WHERE WHAT IT READS IS OF BULK AT MOST 1048576: true; the input reads as it did. -/
def regionSwapsUptoRow : OpenClaim := { program := "ytcmobcbecbajiaa", sum := "30f11419f9606028dd382957a36bb6211aa2048e326688e31d1f82b35a2b7666", func := "cellaret/cellaretlaw9.RegionSwaps", spec := "regionSwaps", unfollowed := true, recurses := true, apart := false, narrowed := true }
def RegionSwapsUptoSaid : Prop := regionSwapsUptoRow.holds Try.pinned (OpenSpec.upto regionSwapsSpec)

/-- 'cellaretlaw9.RegionNumbers', WHERE WHAT IT READS IS OF BULK AT MOST 1048576: true; the input reads as it did. -/
def regionNumbersUptoRow : OpenClaim := { program := "ytcmobcbecbajiaa", sum := "30f11419f9606028dd382957a36bb6211aa2048e326688e31d1f82b35a2b7666", func := "cellaret/cellaretlaw9.RegionNumbers", spec := "regionNumbers", unfollowed := true, recurses := true, apart := false, narrowed := true }
def RegionNumbersUptoSaid : Prop := regionNumbersUptoRow.holds Try.pinned (OpenSpec.upto regionNumbersSpec)

/-- 'cellaretlaw9.RegionSealed', WHERE WHAT IT READS IS OF BULK AT MOST 1048576: true; the input reads as it did. -/
def regionSealedUptoRow : OpenClaim := { program := "ytcmobcbecbajiaa", sum := "30f11419f9606028dd382957a36bb6211aa2048e326688e31d1f82b35a2b7666", func := "cellaret/cellaretlaw9.RegionSealed", spec := "regionSealed", unfollowed := true, recurses := true, apart := false, narrowed := true }
def RegionSealedUptoSaid : Prop := regionSealedUptoRow.holds Try.pinned (OpenSpec.upto regionSealedSpec)

/-- 'cellaretlaw9.RegionTwice', WHERE WHAT IT READS IS OF BULK AT MOST 1048576: true; the input reads as it did. -/
def regionTwiceUptoRow : OpenClaim := { program := "ytcmobcbecbajiaa", sum := "30f11419f9606028dd382957a36bb6211aa2048e326688e31d1f82b35a2b7666", func := "cellaret/cellaretlaw9.RegionTwice", spec := "regionTwice", unfollowed := true, recurses := true, apart := false, narrowed := true }
def RegionTwiceUptoSaid : Prop := regionTwiceUptoRow.holds Try.pinned (OpenSpec.upto regionTwiceSpec)

/-- 'cellaretlaw9.RegionHalf', WHERE WHAT IT READS IS OF BULK AT MOST 1048576: true; the input reads as it did. -/
def regionHalfUptoRow : OpenClaim := { program := "ytcmobcbecbajiaa", sum := "30f11419f9606028dd382957a36bb6211aa2048e326688e31d1f82b35a2b7666", func := "cellaret/cellaretlaw9.RegionHalf", spec := "regionHalf", unfollowed := true, recurses := true, apart := false, narrowed := true }
def RegionHalfUptoSaid : Prop := regionHalfUptoRow.holds Try.pinned (OpenSpec.upto regionHalfSpec)

end Rows
end Go.Proofs.Ytcmobcbecbajiaa
