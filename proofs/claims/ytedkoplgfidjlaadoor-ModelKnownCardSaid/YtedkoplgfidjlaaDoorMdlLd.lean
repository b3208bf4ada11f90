/- What the row's listed variables give the walks; a world that meets the list. -/
import Derived.Test.YtedkoplgfidjlaaDoorRows
import Derived.Test.YtedkoplgfidjlaaDoorTie
import Derived.Test.YtedkoplgfidjlaaDoorMdlD
import Derived.ProofKit
import Derived.LaidMore
import Derived.Lay
import Derived.SevenTiedAt
import Derived.Stop.Joined
import Derived.Stop.LaidErr
import Derived.Lib.LaidU8T
import Derived.PinnedBridge
namespace Go.Proofs.YtedkoplgfidjlaaDoor
open Go.ChangeShapes Go.WideShapes Go.ChangeAt Go.RowKit
set_option linter.unusedVariables false

theorem own : ownKnob Tryd.prog.godebug = none := by kernel_rfl
theorem laidOut : laidOutB Tryd.prog = true := by kernel_rfl
def laid7 : List (String × DataW Unit) := Rows.modelKnownRow.laid
def u8ren : Go.Shelf.Ren := ⟨fun n => n, fun | 5 => 5 | 119 => 149 | 138 => 151 | 139 => 152 | n => n, fun | 3 => 0 | 4 => 1 | n => n⟩
theorem star7 : "*" ++ "errors.errorString" = "*errors.errorString" := by decide
theorem row7 (u : TypeId) (h : Tryd.prog.typeName? 3 u = some "*errors.errorString") : u = 166 :=
  typeName_ptr_named (nm := "errors.errorString") (by rw [star7]; kernel_rfl) (by kernel_rfl) (by decide) u (by rw [star7]; exact h)
theorem var_cell0 {W : World} {n : String} {g : Nat} {v : Value} (hg : Tryd.prog.globalNamed n = some g) (h : W.var? Tryd.prog n = some #[v]) : W.cell? ⟨g, 0, none⟩ = some v := by
  have := World.var?_cell hg h 0
  simpa using this
theorem var_lt {W : World} {n : String} {g : Nat} {cs : Array Value} (hg : Tryd.prog.globalNamed n = some g) (h : W.var? Tryd.prog n = some cs) : g < W.heap.size := by
  unfold World.var? at h
  simp only [hg, Option.bind_some] at h
  rcases Nat.lt_or_ge g W.heap.size with h' | h'
  · exact h'
  · simp [Array.getElem?_eq_none h'] at h
set_option maxRecDepth 100000 in
/-- what the walks ask of the listed variables -/
theorem glob_of_laid {W : World} (h : laidMetH Tryd.prog laid7 W) : Glob W := by
  rw [MakeChecks.laidMetH_plain _ _ _ (by kernel_rfl)] at h
  have hs := h.tail.tail.tail.tail
  obtain ⟨a1, t1, hv1, _⟩ := laid_sentinel (g := 3) hs (by kernel_rfl) (by kernel_rfl) Tryd.underlying110 row7 Tryd.underlying166 Tryd.underlying168 rfl rfl Tryd.underlying9 (by kernel_rfl) (by kernel_rfl)
  obtain ⟨a2, t2, hv2, _⟩ := laid_sentinel (g := 2) hs.tail (by kernel_rfl) (by kernel_rfl) Tryd.underlying110 row7 Tryd.underlying166 Tryd.underlying168 rfl rfl Tryd.underlying9 (by kernel_rfl) (by kernel_rfl)
  refine ⟨?_, ⟨_, _, var_cell0 (by kernel_rfl) hv2⟩, ⟨_, _, var_cell0 (by kernel_rfl) hv1⟩, ?_, ?_⟩
  · exact utf8Tabs_of_readsT (ρ := u8ren) ⟨Tryd.underlying5, Tryd.underlying149, Tryd.underlying151, Tryd.underlying152⟩ ⟨by kernel_rfl, by kernel_rfl, by kernel_rfl, by kernel_rfl, by kernel_rfl, by kernel_rfl, by kernel_rfl⟩
      (Pinned.utf8First_eq ▸ Lib.laidMet.reads (n := "unicode/utf8.first") (d := Go.Pinned.utf8First) h (by simp [laid7, Rows.modelKnownRow, Rows.laid_unicode_utf8_first])) ((show Rows.laid_unicode_utf8_acceptRanges = Lib.acceptData by kernel_rfl) ▸ Lib.laidMet.reads (n := "unicode/utf8.acceptRanges") (d := Rows.laid_unicode_utf8_acceptRanges) h (by simp [laid7, Rows.modelKnownRow]))
  · have h3 := h.tail.tail
    exact Lib.tabIs_of_head (g := 4) (by kernel_rfl) (by kernel_rfl) Tryd.underlying159 Tryd.underlying29 (by kernel_rfl) (by kernel_rfl) h3
  · obtain ⟨g, t, cs, fuel, p, hg, _, hv, _⟩ := Lib.laidMet.reads (n := "math/bits.deBruijn64tab") (d := Rows.laid_math_bits_deBruijn64tab) h (by simp [laid7, Rows.modelKnownRow])
    have := var_lt hg hv
    obtain rfl : (6 : Nat) = g := Option.some.inj ((show Tryd.prog.globalNamed "math/bits.deBruijn64tab" = some 6 by kernel_rfl).symm.trans hg)
    omega
/-- a start that meets the list -/
theorem laid_start (os : Os) (args : Array Value) : laidMetH Tryd.prog laid7 ((World.laidAll Tryd.prog os laid7).forCall (fun _ _ => 0) ⟨#[], args, []⟩).memory := by
  rw [MakeChecks.laidMetH_plain _ _ _ (by kernel_rfl)]
  exact laidMet_laidAll _ (by kernel_rfl) (by kernel_rfl)
theorem shaped_start (os : Os) (args : Array Value) : ((World.laidAll Tryd.prog os laid7).forCall (fun _ _ => 0) ⟨#[], args, []⟩).Shaped Tryd.prog := World.shaped_of_ZipB (by kernel_rfl) (by kernel_rfl)
end Go.Proofs.YtedkoplgfidjlaaDoor
