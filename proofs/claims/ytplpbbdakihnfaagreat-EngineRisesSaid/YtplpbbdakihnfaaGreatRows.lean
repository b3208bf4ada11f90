/-
  No cell of these rows narrows 'for every input' (looked for: loops, veiled, ifaces, maps, wideKeys, modest, calm, conditions, laid).
  DERIVED. THE GIVEN ROWS OF THIS SEAT. 9 by the template 'for every input the law returns true; each argument reads behind the call as it read before'; 0 by the template 'total and deterministic' (their statements: YtplpbbdakihnfaaGreatTotals.lean).
  GIVEN WITH THE SEED: the statements are not yours to turn. If you find one false, say at which input.
  Laid BY PROGRAM, IN A SANDBOX (cutbox-rows.mjs): the forced cells as the released guide's own fill.sh prints them over the translation a666b500cc82bfd0… (all of the seat's roots in one cut). By AI agents, Wed Nov 11 2026. No macro, syntax, notation, axiom, sorry.
-/
import Derived.Test.YtplpbbdakihnfaaGreatChecked
import GoSem.Claim
import GoSem.ClaimJoined
import GoSem.ClaimMapViews
import Derived.JoinedTies
import Derived.KernelRfl
namespace Go.Proofs.YtplpbbdakihnfaaGreat
/- THE CELL 'sum', in the pinned program and in every row, IS THE sha256 OF THE DUMP (.gsa) THAT YtplpbbdakihnfaaGreatProg.lean LOADS. Nothing in Lean hashes anything: it is a label: what it is worth is what the hold of that sum in a sandbox is worth. -/
noncomputable def Tryz.pinned : Pinned := { name := "ytplpbbdakihnfaagreat", sum := "a666b500cc82bfd0c7789ac928c255b842aaeb53bada26392d544354fef22016", checked := Tryz.checked }
namespace Rows
def none {H : Type} : Left H := { results := [], args := [] }

/-- 'cellaretlaw10.EngineKnown': WHATEVER THE INPUT: true; the input reads as it did. -/
def engineKnownSpec : ChangeSpec := { name := "engineKnown", fn := fun _ => fun
  | [] => { results := [.lit (.bool true)], args := [] }
  | _ => none }
def engineKnownRow : OpenClaim := { program := "ytplpbbdakihnfaagreat", sum := "a666b500cc82bfd0c7789ac928c255b842aaeb53bada26392d544354fef22016", func := "cellaret/cellaretlaw10.EngineKnown", spec := "engineKnown", unfollowed := true, recurses := true, apart := false }
def EngineKnownSaid : Prop := engineKnownRow.holds Tryz.pinned (OpenSpec.ofChange engineKnownSpec)

/-- ITS FALSE NEIGHBOUR: 'it returns false'. Refute it at one input. -/
def engineKnownWrong : ChangeSpec := { name := "engineKnown", fn := fun _ => fun
  | [] => { results := [.lit (.bool false)], args := [] }
  | _ => none }
def EngineKnownWrongFalsely : Prop := engineKnownRow.holds Tryz.pinned (OpenSpec.ofChange engineKnownWrong)

/-- 'cellaretlaw10.EngineTold': WHATEVER THE INPUT: true; the input reads as it did. -/
def engineToldSpec : ChangeSpec := { name := "engineTold", fn := fun _ => fun
  | [d1, d2] => { results := [.lit (.bool true)], args := [d1, d2] }
  | _ => none }
def engineToldRow : OpenClaim := { program := "ytplpbbdakihnfaagreat", sum := "a666b500cc82bfd0c7789ac928c255b842aaeb53bada26392d544354fef22016", func := "cellaret/cellaretlaw10.EngineTold", spec := "engineTold", unfollowed := true, recurses := true, apart := false }
def EngineToldSaid : Prop := engineToldRow.holds Tryz.pinned (OpenSpec.ofChange engineToldSpec)

/-- ITS FALSE NEIGHBOUR: 'it returns false'. Refute it at one input. -/
def engineToldWrong : ChangeSpec := { name := "engineTold", fn := fun _ => fun
  | [d1, d2] => { results := [.lit (.bool false)], args := [d1, d2] }
  | _ => none }
def EngineToldWrongFalsely : Prop := engineToldRow.holds Tryz.pinned (OpenSpec.ofChange engineToldWrong)

/-- 'cellaretlaw10.EngineElder': WHATEVER THE INPUT: true; the input reads as it did. -/
def engineElderSpec : ChangeSpec := { name := "engineElder", fn := fun _ => fun
  | [d1, d2, d3, d4] => { results := [.lit (.bool true)], args := [d1, d2, d3, d4] }
  | _ => none }
def engineElderRow : OpenClaim := { program := "ytplpbbdakihnfaagreat", sum := "a666b500cc82bfd0c7789ac928c255b842aaeb53bada26392d544354fef22016", func := "cellaret/cellaretlaw10.EngineElder", spec := "engineElder", unfollowed := true, recurses := true, apart := false }
def EngineElderSaid : Prop := engineElderRow.holds Tryz.pinned (OpenSpec.ofChange engineElderSpec)

/-- ITS FALSE NEIGHBOUR: 'it returns false'. Refute it at one input. -/
def engineElderWrong : ChangeSpec := { name := "engineElder", fn := fun _ => fun
  | [d1, d2, d3, d4] => { results := [.lit (.bool false)], args := [d1, d2, d3, d4] }
  | _ => none }
def EngineElderWrongFalsely : Prop := engineElderRow.holds Tryz.pinned (OpenSpec.ofChange engineElderWrong)

/-- 'cellaretlaw10.EngineGone': WHATEVER THE INPUT: true; the input reads as it did. -/
def engineGoneSpec : ChangeSpec := { name := "engineGone", fn := fun _ => fun
  | [d1, d2, d3, d4] => { results := [.lit (.bool true)], args := [d1, d2, d3, d4] }
  | _ => none }
def engineGoneRow : OpenClaim := { program := "ytplpbbdakihnfaagreat", sum := "a666b500cc82bfd0c7789ac928c255b842aaeb53bada26392d544354fef22016", func := "cellaret/cellaretlaw10.EngineGone", spec := "engineGone", unfollowed := true, recurses := true, apart := false }
def EngineGoneSaid : Prop := engineGoneRow.holds Tryz.pinned (OpenSpec.ofChange engineGoneSpec)

/-- ITS FALSE NEIGHBOUR: 'it returns false'. Refute it at one input. -/
def engineGoneWrong : ChangeSpec := { name := "engineGone", fn := fun _ => fun
  | [d1, d2, d3, d4] => { results := [.lit (.bool false)], args := [d1, d2, d3, d4] }
  | _ => none }
def EngineGoneWrongFalsely : Prop := engineGoneRow.holds Tryz.pinned (OpenSpec.ofChange engineGoneWrong)

/-- 'cellaretlaw10.EngineWiped': WHATEVER THE INPUT: true; the input reads as it did. -/
def engineWipedSpec : ChangeSpec := { name := "engineWiped", fn := fun _ => fun
  | [d1, d2, d3] => { results := [.lit (.bool true)], args := [d1, d2, d3] }
  | _ => none }
def engineWipedRow : OpenClaim := { program := "ytplpbbdakihnfaagreat", sum := "a666b500cc82bfd0c7789ac928c255b842aaeb53bada26392d544354fef22016", func := "cellaret/cellaretlaw10.EngineWiped", spec := "engineWiped", unfollowed := true, recurses := true, apart := false }
def EngineWipedSaid : Prop := engineWipedRow.holds Tryz.pinned (OpenSpec.ofChange engineWipedSpec)

/-- ITS FALSE NEIGHBOUR: 'it returns false'. Refute it at one input. -/
def engineWipedWrong : ChangeSpec := { name := "engineWiped", fn := fun _ => fun
  | [d1, d2, d3] => { results := [.lit (.bool false)], args := [d1, d2, d3] }
  | _ => none }
def EngineWipedWrongFalsely : Prop := engineWipedRow.holds Tryz.pinned (OpenSpec.ofChange engineWipedWrong)

/-- 'cellaretlaw10.EngineFull': WHATEVER THE INPUT: true; the input reads as it did. -/
def engineFullSpec : ChangeSpec := { name := "engineFull", fn := fun _ => fun
  | [d1, d2] => { results := [.lit (.bool true)], args := [d1, d2] }
  | _ => none }
def engineFullRow : OpenClaim := { program := "ytplpbbdakihnfaagreat", sum := "a666b500cc82bfd0c7789ac928c255b842aaeb53bada26392d544354fef22016", func := "cellaret/cellaretlaw10.EngineFull", spec := "engineFull", unfollowed := true, recurses := true, apart := false }
def EngineFullSaid : Prop := engineFullRow.holds Tryz.pinned (OpenSpec.ofChange engineFullSpec)

/-- ITS FALSE NEIGHBOUR: 'it returns false'. Refute it at one input. -/
def engineFullWrong : ChangeSpec := { name := "engineFull", fn := fun _ => fun
  | [d1, d2] => { results := [.lit (.bool false)], args := [d1, d2] }
  | _ => none }
def EngineFullWrongFalsely : Prop := engineFullRow.holds Tryz.pinned (OpenSpec.ofChange engineFullWrong)

/-- 'cellaretlaw10.EngineStays': WHATEVER THE INPUT: true; the input reads as it did. -/
def engineStaysSpec : ChangeSpec := { name := "engineStays", fn := fun _ => fun
  | [d1, d2, d3] => { results := [.lit (.bool true)], args := [d1, d2, d3] }
  | _ => none }
def engineStaysRow : OpenClaim := { program := "ytplpbbdakihnfaagreat", sum := "a666b500cc82bfd0c7789ac928c255b842aaeb53bada26392d544354fef22016", func := "cellaret/cellaretlaw10.EngineStays", spec := "engineStays", unfollowed := true, recurses := true, apart := false }
def EngineStaysSaid : Prop := engineStaysRow.holds Tryz.pinned (OpenSpec.ofChange engineStaysSpec)

/-- ITS FALSE NEIGHBOUR: 'it returns false'. Refute it at one input. -/
def engineStaysWrong : ChangeSpec := { name := "engineStays", fn := fun _ => fun
  | [d1, d2, d3] => { results := [.lit (.bool false)], args := [d1, d2, d3] }
  | _ => none }
def EngineStaysWrongFalsely : Prop := engineStaysRow.holds Tryz.pinned (OpenSpec.ofChange engineStaysWrong)

/-- 'cellaretlaw10.EngineAgain': WHATEVER THE INPUT: true; the input reads as it did. -/
def engineAgainSpec : ChangeSpec := { name := "engineAgain", fn := fun _ => fun
  | [d1, d2, d3, d4] => { results := [.lit (.bool true)], args := [d1, d2, d3, d4] }
  | _ => none }
def engineAgainRow : OpenClaim := { program := "ytplpbbdakihnfaagreat", sum := "a666b500cc82bfd0c7789ac928c255b842aaeb53bada26392d544354fef22016", func := "cellaret/cellaretlaw10.EngineAgain", spec := "engineAgain", unfollowed := true, recurses := true, apart := false }
def EngineAgainSaid : Prop := engineAgainRow.holds Tryz.pinned (OpenSpec.ofChange engineAgainSpec)

/-- ITS FALSE NEIGHBOUR: 'it returns false'. Refute it at one input. -/
def engineAgainWrong : ChangeSpec := { name := "engineAgain", fn := fun _ => fun
  | [d1, d2, d3, d4] => { results := [.lit (.bool false)], args := [d1, d2, d3, d4] }
  | _ => none }
def EngineAgainWrongFalsely : Prop := engineAgainRow.holds Tryz.pinned (OpenSpec.ofChange engineAgainWrong)

/-- 'cellaretlaw10.EngineRises': WHATEVER THE INPUT: true; the input reads as it did. -/
def engineRisesSpec : ChangeSpec := { name := "engineRises", fn := fun _ => fun
  | [d1, d2] => { results := [.lit (.bool true)], args := [d1, d2] }
  | _ => none }
def engineRisesRow : OpenClaim := { program := "ytplpbbdakihnfaagreat", sum := "a666b500cc82bfd0c7789ac928c255b842aaeb53bada26392d544354fef22016", func := "cellaret/cellaretlaw10.EngineRises", spec := "engineRises", unfollowed := true, recurses := true, apart := false }
def EngineRisesSaid : Prop := engineRisesRow.holds Tryz.pinned (OpenSpec.ofChange engineRisesSpec)

/-- ITS FALSE NEIGHBOUR: 'it returns false'. Refute it at one input. -/
def engineRisesWrong : ChangeSpec := { name := "engineRises", fn := fun _ => fun
  | [d1, d2] => { results := [.lit (.bool false)], args := [d1, d2] }
  | _ => none }
def EngineRisesWrongFalsely : Prop := engineRisesRow.holds Tryz.pinned (OpenSpec.ofChange engineRisesWrong)

/- THE SECOND FORM. 'bulk': how many values and letters a reading holds, each counted each time it is reached (what is shared counts as often as it is met; a slice's spare places count too). A statement '..UptoSaid' is the law's where the arguments, and the package variables that the reading takes, are together of bulk at most 1048576: NARROWER than '..Said'. Prove '..Said' where nothing that the law and all that it calls make is longer than what came in: it says more and counts as full. Else prove '..UptoSaid'. A law counts once. -/
mutual
def uptoBulk {H : Type} : DataW H → Nat
  | .lit (.string bytes) => bytes.length + 1
  | .lit _ => 1
  | .nil => 1
  | .ptr d => uptoBulk d + 1
  | .slice elems spare => uptoBulkAll elems + uptoBulkAll spare + 1
  | .agg parts => uptoBulkAll parts + 1
  | .iface _ d => uptoBulk d + 1
  | .map entries => uptoBulkEntries entries + 1
  | .held _ => 1
def uptoBulkAll {H : Type} : List (DataW H) → Nat
  | [] => 0
  | d :: r => uptoBulk d + uptoBulkAll r
def uptoBulkEntries {H : Type} : List (Lit × DataW H) → Nat
  | [] => 0
  | x :: r => uptoBulkEntry x + uptoBulkEntries r
def uptoBulkEntry {H : Type} : Lit × DataW H → Nat
  | (.string bytes, d) => bytes.length + uptoBulk d + 1
  | (_, d) => uptoBulk d + 1
 end
def uptoSmall : (H : Type) → List (DataW H) → Bool := fun _ ds => decide (uptoBulkAll ds ≤ 1048576)
def OpenSpec.upto (s : _root_.Go.ChangeSpec) : _root_.Go.OpenSpec := { _root_.Go.OpenSpec.ofChange s with cond := some uptoSmall }

/-- 'cellaretlaw10.EngineKnown', WHERE WHAT IT READS IS OF BULK AT MOST 1048576: true; the input reads as it did. -/
def engineKnownUptoRow : OpenClaim := { program := "ytplpbbdakihnfaagreat", sum := "a666b500cc82bfd0c7789ac928c255b842aaeb53bada26392d544354fef22016", func := "cellaret/cellaretlaw10.EngineKnown", spec := "engineKnown", unfollowed := true, recurses := true, apart := false, narrowed := true }
def EngineKnownUptoSaid : Prop := engineKnownUptoRow.holds Tryz.pinned (OpenSpec.upto engineKnownSpec)

/-- 'cellaretlaw10.EngineTold', WHERE WHAT IT READS IS OF BULK AT MOST 1048576: true; the input reads as it did. -/
def engineToldUptoRow : OpenClaim := { program := "ytplpbbdakihnfaagreat", sum := "a666b500cc82bfd0c7789ac928c255b842aaeb53bada26392d544354fef22016", func := "cellaret/cellaretlaw10.EngineTold", spec := "engineTold", unfollowed := true, recurses := true, apart := false, narrowed := true }
def EngineToldUptoSaid : Prop := engineToldUptoRow.holds Tryz.pinned (OpenSpec.upto engineToldSpec)

/-- 'cellaretlaw10.EngineElder', WHERE WHAT IT READS IS OF BULK AT MOST 1048576: true; the input reads as it did. -/
def engineElderUptoRow : OpenClaim := { program := "ytplpbbdakihnfaagreat", sum := "a666b500cc82bfd0c7789ac928c255b842aaeb53bada26392d544354fef22016", func := "cellaret/cellaretlaw10.EngineElder", spec := "engineElder", unfollowed := true, recurses := true, apart := false, narrowed := true }
def EngineElderUptoSaid : Prop := engineElderUptoRow.holds Tryz.pinned (OpenSpec.upto engineElderSpec)

/-- 'cellaretlaw10.EngineGone', WHERE WHAT IT READS IS OF BULK AT MOST 1048576: true; the input reads as it did. -/
def engineGoneUptoRow : OpenClaim := { program := "ytplpbbdakihnfaagreat", sum := "a666b500cc82bfd0c7789ac928c255b842aaeb53bada26392d544354fef22016", func := "cellaret/cellaretlaw10.EngineGone", spec := "engineGone", unfollowed := true, recurses := true, apart := false, narrowed := true }
def EngineGoneUptoSaid : Prop := engineGoneUptoRow.holds Tryz.pinned (OpenSpec.upto engineGoneSpec)

/-- 'cellaretlaw10.EngineWiped', WHERE WHAT IT READS IS OF BULK AT MOST 1048576: true; the input reads as it did. -/
def engineWipedUptoRow : OpenClaim := { program := "ytplpbbdakihnfaagreat", sum := "a666b500cc82bfd0c7789ac928c255b842aaeb53bada26392d544354fef22016", func := "cellaret/cellaretlaw10.EngineWiped", spec := "engineWiped", unfollowed := true, recurses := true, apart := false, narrowed := true }
def EngineWipedUptoSaid : Prop := engineWipedUptoRow.holds Tryz.pinned (OpenSpec.upto engineWipedSpec)

/-- 'cellaretlaw10.EngineFull', WHERE WHAT IT READS IS OF BULK AT MOST 1048576: true; the input reads as it did. -/
def engineFullUptoRow : OpenClaim := { program := "ytplpbbdakihnfaagreat", sum := "a666b500cc82bfd0c7789ac928c255b842aaeb53bada26392d544354fef22016", func := "cellaret/cellaretlaw10.EngineFull", spec := "engineFull", unfollowed := true, recurses := true, apart := false, narrowed := true }
def EngineFullUptoSaid : Prop := engineFullUptoRow.holds Tryz.pinned (OpenSpec.upto engineFullSpec)

/-- 'cellaretlaw10.EngineStays', WHERE WHAT IT READS IS OF BULK AT MOST 1048576: true; the input reads as it did. -/
def engineStaysUptoRow : OpenClaim := { program := "ytplpbbdakihnfaagreat", sum := "a666b500cc82bfd0c7789ac928c255b842aaeb53bada26392d544354fef22016", func := "cellaret/cellaretlaw10.EngineStays", spec := "engineStays", unfollowed := true, recurses := true, apart := false, narrowed := true }
def EngineStaysUptoSaid : Prop := engineStaysUptoRow.holds Tryz.pinned (OpenSpec.upto engineStaysSpec)

/-- 'cellaretlaw10.EngineAgain', WHERE WHAT IT READS IS OF BULK AT MOST 1048576: true; the input reads as it did. -/
def engineAgainUptoRow : OpenClaim := { program := "ytplpbbdakihnfaagreat", sum := "a666b500cc82bfd0c7789ac928c255b842aaeb53bada26392d544354fef22016", func := "cellaret/cellaretlaw10.EngineAgain", spec := "engineAgain", unfollowed := true, recurses := true, apart := false, narrowed := true }
def EngineAgainUptoSaid : Prop := engineAgainUptoRow.holds Tryz.pinned (OpenSpec.upto engineAgainSpec)

/-- 'cellaretlaw10.EngineRises', WHERE WHAT IT READS IS OF BULK AT MOST 1048576: true; the input reads as it did. -/
def engineRisesUptoRow : OpenClaim := { program := "ytplpbbdakihnfaagreat", sum := "a666b500cc82bfd0c7789ac928c255b842aaeb53bada26392d544354fef22016", func := "cellaret/cellaretlaw10.EngineRises", spec := "engineRises", unfollowed := true, recurses := true, apart := false, narrowed := true }
def EngineRisesUptoSaid : Prop := engineRisesUptoRow.holds Tryz.pinned (OpenSpec.upto engineRisesSpec)

end Rows
end Go.Proofs.YtplpbbdakihnfaaGreat
