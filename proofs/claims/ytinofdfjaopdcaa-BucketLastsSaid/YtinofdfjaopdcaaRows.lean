/-
  No cell of these rows narrows 'for every input' (looked for: loops, veiled, ifaces, maps, wideKeys, modest, calm, conditions, laid).
  DERIVED. THE GIVEN ROWS OF THIS SEAT. 12 by the template 'for every input the law returns true; each argument reads behind the call as it read before'; 0 by the template 'total and deterministic' (their statements: YtinofdfjaopdcaaTotals.lean).
  GIVEN WITH THE SEED: the statements are not yours to turn. If you find one false, say at which input.
  Laid BY PROGRAM, IN A SANDBOX (cutbox-rows.mjs): the forced cells as the released guide's own fill.sh prints them over the translation 8257d3c0fd4eaa45… (all of the seat's roots in one cut). By AI agents, Wed Nov 11 2026. No macro, syntax, notation, axiom, sorry.
-/
import Derived.Test.YtinofdfjaopdcaaChecked
import GoSem.Claim
import GoSem.ClaimJoined
import GoSem.ClaimMapViews
import Derived.JoinedTies
import Derived.KernelRfl
namespace Go.Proofs.Ytinofdfjaopdcaa
/- THE CELL 'sum', in the pinned program and in every row, IS THE sha256 OF THE DUMP (.gsa) THAT YtinofdfjaopdcaaProg.lean LOADS. Nothing in Lean hashes anything: it is a label: what it is worth is what the hold of that sum in a sandbox is worth. -/
noncomputable def Try.pinned : Pinned := { name := "ytinofdfjaopdcaa", sum := "8257d3c0fd4eaa45a589779991d2deee4003c30230d988bc0c405df92d8b5832", checked := Try.checked }
namespace Rows
def none {H : Type} : Left H := { results := [], args := [] }

/-- 'cellaretlaw15.ImageKnown': WHATEVER THE INPUT: true; the input reads as it did. -/
def imageKnownSpec : ChangeSpec := { name := "imageKnown", fn := fun _ => fun
  | [] => { results := [.lit (.bool true)], args := [] }
  | _ => none }
def imageKnownRow : OpenClaim := { program := "ytinofdfjaopdcaa", sum := "8257d3c0fd4eaa45a589779991d2deee4003c30230d988bc0c405df92d8b5832", func := "cellaret/cellaretlaw15.ImageKnown", spec := "imageKnown", unfollowed := true, recurses := true, apart := false }
def ImageKnownSaid : Prop := imageKnownRow.holds Try.pinned (OpenSpec.ofChange imageKnownSpec)

/-- ITS FALSE NEIGHBOUR: 'it returns false'. Refute it at one input. -/
def imageKnownWrong : ChangeSpec := { name := "imageKnown", fn := fun _ => fun
  | [] => { results := [.lit (.bool false)], args := [] }
  | _ => none }
def ImageKnownWrongFalsely : Prop := imageKnownRow.holds Try.pinned (OpenSpec.ofChange imageKnownWrong)

/-- 'cellaretlaw15.ImageBack': WHATEVER THE INPUT: true; the input reads as it did. -/
def imageBackSpec : ChangeSpec := { name := "imageBack", fn := fun _ => fun
  | [d1, d2] => { results := [.lit (.bool true)], args := [d1, d2] }
  | _ => none }
def imageBackRow : OpenClaim := { program := "ytinofdfjaopdcaa", sum := "8257d3c0fd4eaa45a589779991d2deee4003c30230d988bc0c405df92d8b5832", func := "cellaret/cellaretlaw15.ImageBack", spec := "imageBack", unfollowed := true, recurses := true, apart := false }
def ImageBackSaid : Prop := imageBackRow.holds Try.pinned (OpenSpec.ofChange imageBackSpec)

/-- ITS FALSE NEIGHBOUR: 'it returns false'. Refute it at one input. -/
def imageBackWrong : ChangeSpec := { name := "imageBack", fn := fun _ => fun
  | [d1, d2] => { results := [.lit (.bool false)], args := [d1, d2] }
  | _ => none }
def ImageBackWrongFalsely : Prop := imageBackRow.holds Try.pinned (OpenSpec.ofChange imageBackWrong)

/-- 'cellaretlaw15.ImageAnew': WHATEVER THE INPUT: true; the input reads as it did. -/
def imageAnewSpec : ChangeSpec := { name := "imageAnew", fn := fun _ => fun
  | [d1, d2] => { results := [.lit (.bool true)], args := [d1, d2] }
  | _ => none }
def imageAnewRow : OpenClaim := { program := "ytinofdfjaopdcaa", sum := "8257d3c0fd4eaa45a589779991d2deee4003c30230d988bc0c405df92d8b5832", func := "cellaret/cellaretlaw15.ImageAnew", spec := "imageAnew", unfollowed := true, recurses := true, apart := false }
def ImageAnewSaid : Prop := imageAnewRow.holds Try.pinned (OpenSpec.ofChange imageAnewSpec)

/-- ITS FALSE NEIGHBOUR: 'it returns false'. Refute it at one input. -/
def imageAnewWrong : ChangeSpec := { name := "imageAnew", fn := fun _ => fun
  | [d1, d2] => { results := [.lit (.bool false)], args := [d1, d2] }
  | _ => none }
def ImageAnewWrongFalsely : Prop := imageAnewRow.holds Try.pinned (OpenSpec.ofChange imageAnewWrong)

/-- 'cellaretlaw15.ImageShort': WHATEVER THE INPUT: true; the input reads as it did. -/
def imageShortSpec : ChangeSpec := { name := "imageShort", fn := fun _ => fun
  | [d1, d2] => { results := [.lit (.bool true)], args := [d1, d2] }
  | _ => none }
def imageShortRow : OpenClaim := { program := "ytinofdfjaopdcaa", sum := "8257d3c0fd4eaa45a589779991d2deee4003c30230d988bc0c405df92d8b5832", func := "cellaret/cellaretlaw15.ImageShort", spec := "imageShort", unfollowed := true, recurses := true, apart := false }
def ImageShortSaid : Prop := imageShortRow.holds Try.pinned (OpenSpec.ofChange imageShortSpec)

/-- ITS FALSE NEIGHBOUR: 'it returns false'. Refute it at one input. -/
def imageShortWrong : ChangeSpec := { name := "imageShort", fn := fun _ => fun
  | [d1, d2] => { results := [.lit (.bool false)], args := [d1, d2] }
  | _ => none }
def ImageShortWrongFalsely : Prop := imageShortRow.holds Try.pinned (OpenSpec.ofChange imageShortWrong)

/-- 'cellaretlaw8.BucketKnown': WHATEVER THE INPUT: true; the input reads as it did. -/
def bucketKnownSpec : ChangeSpec := { name := "bucketKnown", fn := fun _ => fun
  | [] => { results := [.lit (.bool true)], args := [] }
  | _ => none }
def bucketKnownRow : OpenClaim := { program := "ytinofdfjaopdcaa", sum := "8257d3c0fd4eaa45a589779991d2deee4003c30230d988bc0c405df92d8b5832", func := "cellaret/cellaretlaw8.BucketKnown", spec := "bucketKnown", unfollowed := true, recurses := true, apart := false }
def BucketKnownSaid : Prop := bucketKnownRow.holds Try.pinned (OpenSpec.ofChange bucketKnownSpec)

/-- ITS FALSE NEIGHBOUR: 'it returns false'. Refute it at one input. -/
def bucketKnownWrong : ChangeSpec := { name := "bucketKnown", fn := fun _ => fun
  | [] => { results := [.lit (.bool false)], args := [] }
  | _ => none }
def BucketKnownWrongFalsely : Prop := bucketKnownRow.holds Try.pinned (OpenSpec.ofChange bucketKnownWrong)

/-- 'cellaretlaw8.BucketKeeps': WHATEVER THE INPUT: true; the input reads as it did. -/
def bucketKeepsSpec : ChangeSpec := { name := "bucketKeeps", fn := fun _ => fun
  | [d1, d2] => { results := [.lit (.bool true)], args := [d1, d2] }
  | _ => none }
def bucketKeepsRow : OpenClaim := { program := "ytinofdfjaopdcaa", sum := "8257d3c0fd4eaa45a589779991d2deee4003c30230d988bc0c405df92d8b5832", func := "cellaret/cellaretlaw8.BucketKeeps", spec := "bucketKeeps", unfollowed := true, recurses := true, apart := false }
def BucketKeepsSaid : Prop := bucketKeepsRow.holds Try.pinned (OpenSpec.ofChange bucketKeepsSpec)

/-- ITS FALSE NEIGHBOUR: 'it returns false'. Refute it at one input. -/
def bucketKeepsWrong : ChangeSpec := { name := "bucketKeeps", fn := fun _ => fun
  | [d1, d2] => { results := [.lit (.bool false)], args := [d1, d2] }
  | _ => none }
def BucketKeepsWrongFalsely : Prop := bucketKeepsRow.holds Try.pinned (OpenSpec.ofChange bucketKeepsWrong)

/-- 'cellaretlaw8.BucketApart': WHATEVER THE INPUT: true; the input reads as it did. -/
def bucketApartSpec : ChangeSpec := { name := "bucketApart", fn := fun _ => fun
  | [d1, d2] => { results := [.lit (.bool true)], args := [d1, d2] }
  | _ => none }
def bucketApartRow : OpenClaim := { program := "ytinofdfjaopdcaa", sum := "8257d3c0fd4eaa45a589779991d2deee4003c30230d988bc0c405df92d8b5832", func := "cellaret/cellaretlaw8.BucketApart", spec := "bucketApart", unfollowed := true, recurses := true, apart := false }
def BucketApartSaid : Prop := bucketApartRow.holds Try.pinned (OpenSpec.ofChange bucketApartSpec)

/-- ITS FALSE NEIGHBOUR: 'it returns false'. Refute it at one input. -/
def bucketApartWrong : ChangeSpec := { name := "bucketApart", fn := fun _ => fun
  | [d1, d2] => { results := [.lit (.bool false)], args := [d1, d2] }
  | _ => none }
def BucketApartWrongFalsely : Prop := bucketApartRow.holds Try.pinned (OpenSpec.ofChange bucketApartWrong)

/-- 'cellaretlaw8.BucketFirst': WHATEVER THE INPUT: true; the input reads as it did. -/
def bucketFirstSpec : ChangeSpec := { name := "bucketFirst", fn := fun _ => fun
  | [d] => { results := [.lit (.bool true)], args := [d] }
  | _ => none }
def bucketFirstRow : OpenClaim := { program := "ytinofdfjaopdcaa", sum := "8257d3c0fd4eaa45a589779991d2deee4003c30230d988bc0c405df92d8b5832", func := "cellaret/cellaretlaw8.BucketFirst", spec := "bucketFirst", unfollowed := true, recurses := true, apart := false }
def BucketFirstSaid : Prop := bucketFirstRow.holds Try.pinned (OpenSpec.ofChange bucketFirstSpec)

/-- ITS FALSE NEIGHBOUR: 'it returns false'. Refute it at one input. -/
def bucketFirstWrong : ChangeSpec := { name := "bucketFirst", fn := fun _ => fun
  | [d] => { results := [.lit (.bool false)], args := [d] }
  | _ => none }
def BucketFirstWrongFalsely : Prop := bucketFirstRow.holds Try.pinned (OpenSpec.ofChange bucketFirstWrong)

/-- 'cellaretlaw15.ImageLasts': WHATEVER THE INPUT: true; the input reads as it did. -/
def imageLastsSpec : ChangeSpec := { name := "imageLasts", fn := fun _ => fun
  | [d1, d2, d3] => { results := [.lit (.bool true)], args := [d1, d2, d3] }
  | _ => none }
def imageLastsRow : OpenClaim := { program := "ytinofdfjaopdcaa", sum := "8257d3c0fd4eaa45a589779991d2deee4003c30230d988bc0c405df92d8b5832", func := "cellaret/cellaretlaw15.ImageLasts", spec := "imageLasts", unfollowed := true, recurses := true, apart := false }
def ImageLastsSaid : Prop := imageLastsRow.holds Try.pinned (OpenSpec.ofChange imageLastsSpec)

/-- ITS FALSE NEIGHBOUR: 'it returns false'. Refute it at one input. -/
def imageLastsWrong : ChangeSpec := { name := "imageLasts", fn := fun _ => fun
  | [d1, d2, d3] => { results := [.lit (.bool false)], args := [d1, d2, d3] }
  | _ => none }
def ImageLastsWrongFalsely : Prop := imageLastsRow.holds Try.pinned (OpenSpec.ofChange imageLastsWrong)

/-- 'cellaretlaw15.ImageSpoils': WHATEVER THE INPUT: true; the input reads as it did. -/
def imageSpoilsSpec : ChangeSpec := { name := "imageSpoils", fn := fun _ => fun
  | [d1, d2, d3] => { results := [.lit (.bool true)], args := [d1, d2, d3] }
  | _ => none }
def imageSpoilsRow : OpenClaim := { program := "ytinofdfjaopdcaa", sum := "8257d3c0fd4eaa45a589779991d2deee4003c30230d988bc0c405df92d8b5832", func := "cellaret/cellaretlaw15.ImageSpoils", spec := "imageSpoils", unfollowed := true, recurses := true, apart := false }
def ImageSpoilsSaid : Prop := imageSpoilsRow.holds Try.pinned (OpenSpec.ofChange imageSpoilsSpec)

/-- ITS FALSE NEIGHBOUR: 'it returns false'. Refute it at one input. -/
def imageSpoilsWrong : ChangeSpec := { name := "imageSpoils", fn := fun _ => fun
  | [d1, d2, d3] => { results := [.lit (.bool false)], args := [d1, d2, d3] }
  | _ => none }
def ImageSpoilsWrongFalsely : Prop := imageSpoilsRow.holds Try.pinned (OpenSpec.ofChange imageSpoilsWrong)

/-- 'cellaretlaw15.ImagePlays': WHATEVER THE INPUT: true; the input reads as it did. -/
def imagePlaysSpec : ChangeSpec := { name := "imagePlays", fn := fun _ => fun
  | [d1, d2, d3, d4, d5] => { results := [.lit (.bool true)], args := [d1, d2, d3, d4, d5] }
  | _ => none }
def imagePlaysRow : OpenClaim := { program := "ytinofdfjaopdcaa", sum := "8257d3c0fd4eaa45a589779991d2deee4003c30230d988bc0c405df92d8b5832", func := "cellaret/cellaretlaw15.ImagePlays", spec := "imagePlays", unfollowed := true, recurses := true, apart := false }
def ImagePlaysSaid : Prop := imagePlaysRow.holds Try.pinned (OpenSpec.ofChange imagePlaysSpec)

/-- ITS FALSE NEIGHBOUR: 'it returns false'. Refute it at one input. -/
def imagePlaysWrong : ChangeSpec := { name := "imagePlays", fn := fun _ => fun
  | [d1, d2, d3, d4, d5] => { results := [.lit (.bool false)], args := [d1, d2, d3, d4, d5] }
  | _ => none }
def ImagePlaysWrongFalsely : Prop := imagePlaysRow.holds Try.pinned (OpenSpec.ofChange imagePlaysWrong)

/-- 'cellaretlaw8.BucketLasts': WHATEVER THE INPUT: true; the input reads as it did. -/
def bucketLastsSpec : ChangeSpec := { name := "bucketLasts", fn := fun _ => fun
  | [d1, d2, d3] => { results := [.lit (.bool true)], args := [d1, d2, d3] }
  | _ => none }
def bucketLastsRow : OpenClaim := { program := "ytinofdfjaopdcaa", sum := "8257d3c0fd4eaa45a589779991d2deee4003c30230d988bc0c405df92d8b5832", func := "cellaret/cellaretlaw8.BucketLasts", spec := "bucketLasts", unfollowed := true, recurses := true, apart := false }
def BucketLastsSaid : Prop := bucketLastsRow.holds Try.pinned (OpenSpec.ofChange bucketLastsSpec)

/-- ITS FALSE NEIGHBOUR: 'it returns false'. Refute it at one input. -/
def bucketLastsWrong : ChangeSpec := { name := "bucketLasts", fn := fun _ => fun
  | [d1, d2, d3] => { results := [.lit (.bool false)], args := [d1, d2, d3] }
  | _ => none }
def BucketLastsWrongFalsely : Prop := bucketLastsRow.holds Try.pinned (OpenSpec.ofChange bucketLastsWrong)

/- THE SECOND FORM. 'bulk': how many values and letters a reading holds, each counted each time it is reached (what is shared counts as often as it is met; a slice's spare places count too). A statement '..UptoSaid' is the law's where the arguments, and the package variables that the reading takes, are together of bulk at most 1048576: NARROWER than '..Said'. Prove '..Said' where nothing that the law and all that it calls make is longer than what came in: it says more and counts as full. Else prove '..UptoSaid'. A law counts once. -/
mutual
def uptoBulk {H : Type} : DataW H → Nat
  | .lit (.string bytes) => bytes.length + 1
  | .lit _ => 1
  | .nil => 1
  | .ptr d => uptoBulk d + 1
  | .slice elems spare => uptoBulkAll elems + uptoBulkAll spare + 1
  | .agg parts => uptoBulkAll parts + 1
  | .iface _ d => uptoBulk d + 1
  | .map entries => uptoBulkEntries entries + 1
  | .held _ => 1
def uptoBulkAll {H : Type} : List (DataW H) → Nat
  | [] => 0
  | d :: r => uptoBulk d + uptoBulkAll r
def uptoBulkEntries {H : Type} : List (Lit × DataW H) → Nat
  | [] => 0
  | x :: r => uptoBulkEntry x + uptoBulkEntries r
def uptoBulkEntry {H : Type} : Lit × DataW H → Nat
  | (.string bytes, d) => bytes.length + uptoBulk d + 1
  | (_, d) => uptoBulk d + 1
 end
def uptoSmall : (H : Type) → List (DataW H) → Bool := fun _ ds => decide (uptoBulkAll ds ≤ 1048576)
def OpenSpec.upto (s : _root_.Go.ChangeSpec) : _root_.Go.OpenSpec := { _root_.Go.OpenSpec.ofChange s with cond := some uptoSmall }

/-- 'cellaretlaw15.ImageKnown', WHERE WHAT IT READS IS OF BULK AT MOST 1048576: true; the input reads as it did. -/
def imageKnownUptoRow : OpenClaim := { program := "ytinofdfjaopdcaa", sum := "8257d3c0fd4eaa45a589779991d2deee4003c30230d988bc0c405df92d8b5832", func := "cellaret/cellaretlaw15.ImageKnown", spec := "imageKnown", unfollowed := true, recurses := true, apart := false, narrowed := true }
def ImageKnownUptoSaid : Prop := imageKnownUptoRow.holds Try.pinned (OpenSpec.upto imageKnownSpec)

/-- 'cellaretlaw15.ImageBack', WHERE WHAT IT READS IS OF BULK AT MOST 1048576: true; the input reads as it did. -/
def imageBackUptoRow : OpenClaim := { program := "ytinofdfjaopdcaa", sum := "8257d3c0fd4eaa45a589779991d2deee4003c30230d988bc0c405df92d8b5832", func := "cellaret/cellaretlaw15.ImageBack", spec := "imageBack", unfollowed := true, recurses := true, apart := false, narrowed := true }
def ImageBackUptoSaid : Prop := imageBackUptoRow.holds Try.pinned (OpenSpec.upto imageBackSpec)

/-- 'cellaretlaw15.ImageAnew', WHERE WHAT IT READS IS OF BULK AT MOST 1048576: true; the input reads as it did. -/
def imageAnewUptoRow : OpenClaim := { program := "ytinofdfjaopdcaa", sum := "8257d3c0fd4eaa45a589779991d2deee4003c30230d988bc0c405df92d8b5832", func := "cellaret/cellaretlaw15.ImageAnew", spec := "imageAnew", unfollowed := true, recurses := true, apart := false, narrowed := true }
def ImageAnewUptoSaid : Prop := imageAnewUptoRow.holds Try.pinned (OpenSpec.upto imageAnewSpec)

/-- 'cellaretlaw15.ImageShort', WHERE WHAT IT READS IS OF BULK AT MOST 1048576: true; the input reads as it did. -/
def imageShortUptoRow : OpenClaim := { program := "ytinofdfjaopdcaa", sum := "8257d3c0fd4eaa45a589779991d2deee4003c30230d988bc0c405df92d8b5832", func := "cellaret/cellaretlaw15.ImageShort", spec := "imageShort", unfollowed := true, recurses := true, apart := false, narrowed := true }
def ImageShortUptoSaid : Prop := imageShortUptoRow.holds Try.pinned (OpenSpec.upto imageShortSpec)

/-- 'cellaretlaw8.BucketKnown', WHERE WHAT IT READS IS OF BULK AT MOST 1048576: true; the input reads as it did. -/
def bucketKnownUptoRow : OpenClaim := { program := "ytinofdfjaopdcaa", sum := "8257d3c0fd4eaa45a589779991d2deee4003c30230d988bc0c405df92d8b5832", func := "cellaret/cellaretlaw8.BucketKnown", spec := "bucketKnown", unfollowed := true, recurses := true, apart := false, narrowed := true }
def BucketKnownUptoSaid : Prop := bucketKnownUptoRow.holds Try.pinned (OpenSpec.upto bucketKnownSpec)

/-- 'cellaretlaw8.BucketKeeps', WHERE WHAT IT READS IS OF BULK AT MOST 1048576: true; the input reads as it did. -/
def bucketKeepsUptoRow : OpenClaim := { program := "ytinofdfjaopdcaa", sum := "8257d3c0fd4eaa45a589779991d2deee4003c30230d988bc0c405df92d8b5832", func := "cellaret/cellaretlaw8.BucketKeeps", spec := "bucketKeeps", unfollowed := true, recurses := true, apart := false, narrowed := true }
def BucketKeepsUptoSaid : Prop := bucketKeepsUptoRow.holds Try.pinned (OpenSpec.upto bucketKeepsSpec)

/-- 'cellaretlaw8.BucketApart', WHERE WHAT IT READS IS OF BULK AT MOST 1048576: true; the input reads as it did. -/
def bucketApartUptoRow : OpenClaim := { program := "ytinofdfjaopdcaa", sum := "8257d3c0fd4eaa45a589779991d2deee4003c30230d988bc0c405df92d8b5832", func := "cellaret/cellaretlaw8.BucketApart", spec := "bucketApart", unfollowed := true, recurses := true, apart := false, narrowed := true }
def BucketApartUptoSaid : Prop := bucketApartUptoRow.holds Try.pinned (OpenSpec.upto bucketApartSpec)

/-- 'cellaretlaw8.BucketFirst', WHERE WHAT IT READS IS OF BULK AT MOST 1048576: true; the input reads as it did. -/
def bucketFirstUptoRow : OpenClaim := { program := "ytinofdfjaopdcaa", sum := "8257d3c0fd4eaa45a589779991d2deee4003c30230d988bc0c405df92d8b5832", func := "cellaret/cellaretlaw8.BucketFirst", spec := "bucketFirst", unfollowed := true, recurses := true, apart := false, narrowed := true }
def BucketFirstUptoSaid : Prop := bucketFirstUptoRow.holds Try.pinned (OpenSpec.upto bucketFirstSpec)

/-- 'cellaretlaw15.ImageLasts', WHERE WHAT IT READS IS OF BULK AT MOST 1048576: true; the input reads as it did. -/
def imageLastsUptoRow : OpenClaim := { program := "ytinofdfjaopdcaa", sum := "8257d3c0fd4eaa45a589779991d2deee4003c30230d988bc0c405df92d8b5832", func := "cellaret/cellaretlaw15.ImageLasts", spec := "imageLasts", unfollowed := true, recurses := true, apart := false, narrowed := true }
def ImageLastsUptoSaid : Prop := imageLastsUptoRow.holds Try.pinned (OpenSpec.upto imageLastsSpec)

/-- 'cellaretlaw15.ImageSpoils', WHERE WHAT IT READS IS OF BULK AT MOST 1048576: true; the input reads as it did. -/
def imageSpoilsUptoRow : OpenClaim := { program := "ytinofdfjaopdcaa", sum := "8257d3c0fd4eaa45a589779991d2deee4003c30230d988bc0c405df92d8b5832", func := "cellaret/cellaretlaw15.ImageSpoils", spec := "imageSpoils", unfollowed := true, recurses := true, apart := false, narrowed := true }
def ImageSpoilsUptoSaid : Prop := imageSpoilsUptoRow.holds Try.pinned (OpenSpec.upto imageSpoilsSpec)

/-- 'cellaretlaw15.ImagePlays', WHERE WHAT IT READS IS OF BULK AT MOST 1048576: true; the input reads as it did. -/
def imagePlaysUptoRow : OpenClaim := { program := "ytinofdfjaopdcaa", sum := "8257d3c0fd4eaa45a589779991d2deee4003c30230d988bc0c405df92d8b5832", func := "cellaret/cellaretlaw15.ImagePlays", spec := "imagePlays", unfollowed := true, recurses := true, apart := false, narrowed := true }
def ImagePlaysUptoSaid : Prop := imagePlaysUptoRow.holds Try.pinned (OpenSpec.upto imagePlaysSpec)

/-- 'cellaretlaw8.BucketLasts', WHERE WHAT IT READS IS OF BULK AT MOST 1048576: true; the input reads as it did. -/
def bucketLastsUptoRow : OpenClaim := { program := "ytinofdfjaopdcaa", sum := "8257d3c0fd4eaa45a589779991d2deee4003c30230d988bc0c405df92d8b5832", func := "cellaret/cellaretlaw8.BucketLasts", spec := "bucketLasts", unfollowed := true, recurses := true, apart := false, narrowed := true }
def BucketLastsUptoSaid : Prop := bucketLastsUptoRow.holds Try.pinned (OpenSpec.upto bucketLastsSpec)

end Rows
end Go.Proofs.Ytinofdfjaopdcaa
