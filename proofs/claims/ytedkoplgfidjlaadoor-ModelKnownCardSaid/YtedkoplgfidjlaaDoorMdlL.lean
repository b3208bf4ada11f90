/- The model's Items, walked. -/
import Derived.Test.YtedkoplgfidjlaaDoorMdlK
import Derived.Maps.Own
import Derived.Sort.KeysCollected
import Derived.StringKeys
import Derived.WideShapes
import Derived.Shelf.SortM.SortNone
namespace Go.Proofs.YtedkoplgfidjlaaDoor
open Go.RowKit Go.Maps
open Go.WideElems (Fit rd rg)
set_option linter.unusedSimpArgs false
set_option linter.unusedVariables false

/-- each element reads as one datum -/
def oneR : Value → Option (DataW Unit × List MemPlace) := fun _ => some (.lit (.bool true), [])
def keyStr : Value → List UInt8
  | .string s => s.data.toList
  | _ => []
theorem MapIs.ownsS {P : Program} {kt : TypeId} {w : World} {b : Nat} {es : List (ByteArray × Value)} (h : MapIs skey w b es) (hk : P.underlying kt = some .string) (hwf : ∀ p ∈ es, p.1.size ≤ maxLen) (hmax : es.length ≤ maxLen) :
    ∃ D0 : DataW Unit, w.ownsMap P kt oneR b es.length D0 ∧ (strKeys D0).Perm ((akeys es).map (fun k => k.data.toList)) ∧ Maps.size D0 = es.length := by
  obtain ⟨arr, clock, hb, hl, hnd, hborn, hlt⟩ := h
  have hlen : arr.size = es.length := by
    have := congrArg List.length hl
    simpa using this
  have hkeys : arr.toList.map (·.key) = es.map (fun p => skey p.1) := by
    have := congrArg (List.map Prod.fst) hl
    simpa [List.map_map, Function.comp_def] using this
  have hread : ∀ x ∈ arr.toList, ∃ a, x.key = skey a ∧ rd P kt oneR x = some (.string a.data.toList, .lit (.bool true)) := by
    intro x hx
    have : x.key ∈ arr.toList.map (·.key) := List.mem_map_of_mem hx
    rw [hkeys] at this
    obtain ⟨p, hp, he⟩ := List.mem_map.1 this
    refine ⟨p.1, he.symm, ?_⟩
    unfold rd
    rw [← he, Go.WideMaps.keyOf_string_mk hk (hwf p hp)]
    rfl
  refine ⟨.map ((arr.toList.map (rg P kt oneR)).foldr DataW.insert []), ⟨arr, clock, hb, ⟨by rw [hlen]; exact hmax, ⟨hlt, hborn, ?_⟩, fun x hx => ?_⟩, by rw [hlen]; exact Nat.le_refl _, rfl⟩, ?_, ?_⟩
  · rw [hkeys]
    have : es.map (fun p => skey p.1) = (es.map (·.1)).map skey := by rw [List.map_map]; rfl
    rw [this]
    refine List.pairwise_map.2 (hnd.imp fun {a b} hne he => hne ?_)
    simpa [skey] using he
  · obtain ⟨a, _, hr⟩ := hread x hx
    exact ⟨_, hr⟩
  · show (((arr.toList.map (rg P kt oneR)).foldr DataW.insert []).map fun p => _root_.Go.strOf p.1).Perm _
    refine ((Go.WideShapes.sorted_perm _).map _).trans ?_
    have e1 : (arr.toList.map (rg P kt oneR)).map (fun p => _root_.Go.strOf p.1) = (arr.toList.map (·.key)).map keyStr := by
      rw [List.map_map, List.map_map]
      refine List.map_congr_left fun x hx => ?_
      obtain ⟨a, hx1, hr⟩ := hread x hx
      show _root_.Go.strOf (rg P kt oneR x).1 = keyStr x.key
      unfold rg
      rw [hr, hx1]
      rfl
    rw [e1, hkeys, List.map_map]
    have e2 : es.map (keyStr ∘ fun p => skey p.1) = (akeys es).map (fun k => k.data.toList) := by unfold akeys; rw [List.map_map]; rfl
    rw [e2]
  · show ((arr.toList.map (rg P kt oneR)).foldr DataW.insert []).length = es.length
    rw [(Go.WideShapes.sorted_perm _).length_eq]
    simp [hlen]
/-- the keys, sorted by their bytes -/
def skeys (es : Its) : List (List UInt8) := ((akeys es).map (fun k => k.data.toList)).mergeSort leB
abbrev tKf : TypeId := 52
theorem mkeys_calls (M : Nat) (W : World) :
    Calls Tryd.prog 28 #[.map (some M)] W fun e w' => e = .returned (.func (.func 43) #[] #[.pointer (some ⟨W.heap.size, 0, none⟩)]) ∧ w' = W.alloc (.cells #[.map (some M)] tKf) :=
  (callsIn_wide (n := 5)).1 (AnyZ.keys_in Tryd.keysA Fence.wide 5 trivial rfl (some M) W)
open Go.Shelf in
theorem str_sorts (m : Nat) : AnyZ.SortsIn Tryd.prog Tryd.sortedA_ren Fence.wide m :=
  ⟨fun blk off cap ss W hH hblk hsz => callsIn_wide.2 (AnyM.slices_Sort_string Tryd.sortA blk off cap ss W hH hblk hsz),
   fun p cap W => callsIn_wide.2 (AnyM.slices_Sort_string_none Tryd.sortA p cap W)⟩
set_option maxHeartbeats 1000000 in
theorem msorted_calls {w : World} {M : Nat} {es : Its} (h : MapIs skey w M (imap es)) (hok : ItsOk es) (hn : es.length ≤ 100000) :
    Calls Tryd.prog 27 #[.func (.func 43) #[] #[.pointer (some ⟨w.heap.size, 0, none⟩)]] (w.alloc (.cells #[.map (some M)] tKf)) fun e w' => ∃ v, e = .returned v ∧ w'.ownsRow (w.heap.size + 1) tStr 1 v (skeys es).length ((skeys es).map encStr) ∧ Below (w.heap.size + 1) (w.alloc (.cells #[.map (some M)] tKf)) w' := by
  have hlen : (imap es).length = es.length := by simp [imap]
  obtain ⟨D0, hown, hkp, hms⟩ := h.ownsS (P := Tryd.prog) (kt := 9) Tryd.underlying9 (fun p hp => by
    obtain ⟨q, hq, rfl⟩ := List.mem_map.1 hp
    have := (hok q hq).2.1
    show q.1.size ≤ maxLen
    simp only [maxLen]; omega) (by rw [hlen]; simp only [maxLen]; omega)
  rw [hlen] at hown hms
  rw [akeys_imap] at hkp
  have hbl := hown.lt
  have hseq : SeqGives Fence.wide 2 Tryd.prog 43 #[.pointer (some ⟨w.heap.size, 0, none⟩)] encStr (fun ss => ss.Perm (strKeys D0)) (Maps.size D0) (w.alloc (.cells #[.map (some M)] tKf)) :=
    AnyZ.keys_gives (ρ := Tryd.keysA_ren) { Tryd.keysA with } Fence.wide _ trivial rfl (by omega) w.heap.size M es.length D0 _ (by simp) (by simp) (by
      obtain ⟨es, clock, hb, Ft, hs, hD⟩ := hown
      exact ⟨es, clock, (Below.heap_alloc _ _ M hbl).trans hb, Ft, hs, hD⟩)
  have cS := AnyZ.sorted_in Tryd.sortedA Fence.wide 5 trivial trivial trivial trivial rfl (by omega) (str_sorts _) (enters_of Tryd.func42 (by kernel_rfl) rfl) 43 #[.pointer (some ⟨w.heap.size, 0, none⟩)] trivial (enters_of Tryd.func43 (by kernel_rfl) rfl) _ _ (by rw [hms]; simp only [maxLen]; omega) (by rw [hms]; omega) _ hseq
  refine ((callsIn_wide (n := 5)).1 cS).mono ?_
  rintro e w' ⟨v, ss, rfl, hS, hrow, hnil, hb⟩
  have e1 : ss.mergeSort (fun x y => decide (x ≤ y)) = skeys es := mergeSort_of_perm (hS.trans hkp)
  have e2 : ss.length = (skeys es).length := by rw [← e1, List.length_mergeSort]
  rw [e1, e2, World.size_alloc] at hrow
  rw [World.size_alloc] at hb
  exact ⟨v, rfl, hrow, hb⟩
end Go.Proofs.YtedkoplgfidjlaaDoor
