/- A map by its pairs, as the shelf's contracts know it. -/
import Derived.Test.YtcmobcbecbajiaaMaps
import Derived.Test.YtcmobcbecbajiaaFlashRep
import Derived.Maps.Own
import Derived.Lib.SlKeysI
import Derived.WideShapes
namespace Go.Proofs.Ytcmobcbecbajiaa
open Go.RowKit Go.Maps
open Go.WideElems (Fit rd rg)
set_option linter.unusedSimpArgs false
set_option linter.unusedVariables false

/-- each element reads as one datum -/
def oneR : Value → Option (DataW Unit × List MemPlace) := fun _ => some (.lit (.bool true), [])
def keyInt : Value → Int
  | .int _ a => a
  | _ => 0
theorem MapIs.owns {P : Program} {kt : TypeId} {w : World} {b : Nat} {es : List (Int × Value)} (h : MapIs ikey w b es) (hk : P.underlying kt = some (.int .i64)) (hwf : ∀ p ∈ es, (Lit.int .i64 p.1).wf = true) (hmax : es.length ≤ maxLen) :
    ∃ D0 : DataW Unit, w.ownsMap P kt oneR b es.length D0 ∧ (intKeys D0).Perm (akeys es) ∧ Maps.size D0 = es.length := by
  obtain ⟨arr, clock, hb, hl, hnd, hborn, hlt⟩ := h
  have hlen : arr.size = es.length := by
    have := congrArg List.length hl
    simpa using this
  have hkeys : arr.toList.map (·.key) = es.map (fun p => ikey p.1) := by
    have := congrArg (List.map Prod.fst) hl
    simpa [List.map_map, Function.comp_def] using this
  have hread : ∀ x ∈ arr.toList, ∃ a, x.key = ikey a ∧ rd P kt oneR x = some (.int .i64 a, .lit (.bool true)) := by
    intro x hx
    have : x.key ∈ arr.toList.map (·.key) := List.mem_map_of_mem hx
    rw [hkeys] at this
    obtain ⟨p, hp, he⟩ := List.mem_map.1 this
    refine ⟨p.1, he.symm, ?_⟩
    unfold rd
    rw [← he, keyOf_int_mk hk (hwf p hp)]
    rfl
  refine ⟨.map ((arr.toList.map (rg P kt oneR)).foldr DataW.insert []), ⟨arr, clock, hb, ⟨by rw [hlen]; exact hmax, ⟨hlt, hborn, ?_⟩, fun x hx => ?_⟩, by rw [hlen]; exact Nat.le_refl _, rfl⟩, ?_, ?_⟩
  · rw [hkeys]
    have : es.map (fun p => ikey p.1) = (es.map (·.1)).map ikey := by rw [List.map_map]; rfl
    rw [this]
    refine List.pairwise_map.2 (hnd.imp fun {a b} hne he => hne ?_)
    simpa [ikey] using he
  · obtain ⟨a, _, hr⟩ := hread x hx
    exact ⟨_, hr⟩
  · show (((arr.toList.map (rg P kt oneR)).foldr DataW.insert []).map fun p => intOf p.1).Perm _
    refine ((Go.WideShapes.sorted_perm _).map _).trans ?_
    have e1 : (arr.toList.map (rg P kt oneR)).map (fun p => intOf p.1) = (arr.toList.map (·.key)).map keyInt := by
      rw [List.map_map, List.map_map]
      refine List.map_congr_left fun x hx => ?_
      obtain ⟨a, hx1, hr⟩ := hread x hx
      show intOf (rg P kt oneR x).1 = keyInt x.key
      unfold rg
      rw [hr, hx1]
      rfl
    rw [e1, hkeys, List.map_map]
    have e2 : es.map (keyInt ∘ fun p => ikey p.1) = akeys es := rfl
    rw [e2]
  · show ((arr.toList.map (rg P kt oneR)).foldr DataW.insert []).length = es.length
    rw [(Go.WideShapes.sorted_perm _).length_eq]
    simp [hlen]
end Go.Proofs.Ytcmobcbecbajiaa
