/- The flash device's Waiting. -/
import Derived.Test.YtinofdfjaopdcaaFlashC
import Derived.Test.YtinofdfjaopdcaaKeyMap
import Derived.Test.YtinofdfjaopdcaaShelf
import Derived.Shelf.AbstractIn
import Derived.TacticsInMore
import Derived.OwnWalkIn
namespace Go.Proofs.Ytinofdfjaopdcaa
open Go.RowKit Go.Maps Go.Shelf
open Go.ChangeMaps (setBlock)
set_option linter.unusedSimpArgs false
set_option linter.unusedVariables false

theorem shelf_sorts (m : Nat) : AnyZI.SortsIn Try.prog Try.sortedA_ren Fence.wide m :=
  ⟨fun blk off cap ss W hH hblk hsz => callsIn_wide.2 (AnyM.slices_Sort_int Try.sortA blk off cap ss W hH hblk hsz),
   fun p cap W => callsIn_wide.2 (AnyM.slices_Sort_int_none Try.sortA p cap W)⟩

/-- the pages that wait, as ints -/
def Dev.waitI (D : Dev) : List Int := D.waiting.map fun (i : Nat) => (i : Int)
theorem waitI_sorted (D : Dev) : D.waitI.Pairwise (fun a b => a < b) := by
  unfold Dev.waitI Dev.waiting
  refine List.pairwise_map.2 (List.Pairwise.filter _ ?_)
  exact List.pairwise_lt_range.imp (fun h => by omega)
theorem wait_perm {N : Nat} {w : World} {es : List (Int × Value)} {D : Dev} (h : WaitAt N w es D.n D.wt) (hnd : (akeys es).Nodup) : (akeys es).Perm D.waitI := by
  refine (List.perm_ext_iff_of_nodup hnd ((waitI_sorted D).imp (fun h => by omega))).2 fun x => ?_
  constructor
  · intro hx
    obtain ⟨p, hp, rfl⟩ := List.mem_map.1 hx
    obtain ⟨i, pg, e1, e2, e3, _⟩ := h.1 p.1 p.2 hp
    refine List.mem_map.2 ⟨i, ?_, e1.symm⟩
    unfold Dev.waiting
    exact List.mem_filter.2 ⟨List.mem_range.2 e2, by rw [e3]; rfl⟩
  · intro hx
    obtain ⟨i, hi, rfl⟩ := List.mem_map.1 hx
    unfold Dev.waiting at hi
    obtain ⟨h1, h2⟩ := List.mem_filter.1 hi
    obtain ⟨pg, hpg⟩ := Option.isSome_iff_exists.1 h2
    obtain ⟨v, hv⟩ := h.2 i pg hpg
    exact List.mem_map.2 ⟨((i : Int), v), aget_mem hv, rfl⟩
theorem waiting_le (D : Dev) : D.waiting.length ≤ D.n := by
  unfold Dev.waiting
  exact Nat.le_trans (List.length_filter_le _ _) (by simp)
theorem sort_wait {ss : List Int} {D : Dev} (h : ss.Perm D.waitI) : ss.mergeSort (fun x y => decide (x ≤ y)) = D.waitI := by
  rw [mergeSort_of_perm_i h]
  refine List.mergeSort_of_pairwise ((waitI_sorted D).imp (fun {a b} h => ?_))
  simp only [leI, decide_eq_true_eq]; omega

abbrev encI : Nat → Value := fun i => .int .i64 i
set_option maxHeartbeats 1000000 in
theorem waiting_calls {N : Nat} {w : World} {h : DevH} {D : Dev} (hd : DevN N w h D) :
    Calls Try.prog 95 #[.pointer (some ⟨h.d, 0, none⟩)] w fun e w' => ∃ v, e = .returned v ∧ w'.ownsRow w.heap.size 3 1 v D.waiting.length (D.waiting.map encI) ∧ Chg No w w' := by
  obtain ⟨a, b, c, e, hb⟩ := hd.box
  have h1 := hb.cell 1
  simp at h1
  obtain ⟨es, hm, hw⟩ := hd.map
  have hper := wait_perm hw hm.nodup
  have hlen : es.length = D.waiting.length := by
    have := hper.length_eq
    simpa [akeys, Dev.waitI] using this
  have hle := waiting_le D
  have hn := hd.nmost
  obtain ⟨D0, hown, hkp, hms⟩ := hm.owns (P := Try.prog) (kt := 3) Try.underlying3 (fun p hp => by
    obtain ⟨i, pg, e1, e2, _⟩ := hw.1 p.1 p.2 hp
    rw [e1]
    have m1 : IntKind.i64.min = -9223372036854775808 := by decide
    have m2 : IntKind.i64.max = 9223372036854775807 := by decide
    simp only [Lit.wf, m1, m2, Bool.and_eq_true, decide_eq_true_eq]; omega) (by simp only [maxLen]; omega)
  have hdb := hd.box
  clear hb hd
  refine (callsIn_wide (n := 6)).1 ?_
  have hbl := hown.lt
  have hseq : SeqGives Fence.wide 2 Try.prog 109 #[.pointer (some ⟨w.heap.size, 0, none⟩)] encZ (fun ss => ss.Perm (intKeys D0)) (Maps.size D0) (w.alloc (.cells #[.map (some h.M)] 79)) :=
    AnyZI.keys_gives (ρ := Try.keysA_ren) { Try.keysA with } Fence.wide _ trivial rfl (by omega) w.heap.size h.M es.length D0 _ (by simp) (by simp) (by
      obtain ⟨es, clock, hb, Ft, hs, hD⟩ := hown
      exact ⟨es, clock, (Below.heap_alloc _ _ h.M hbl).trans hb, Ft, hs, hD⟩)
  have cK : ∀ mb W, CallsIn Fence.wide 5 Try.prog 105 #[.map mb] W fun e w' => e = .returned (.func (.func 109) #[] #[.pointer (some ⟨W.heap.size, 0, none⟩)]) ∧ w' = W.alloc (.cells #[.map mb] 79) := fun mb W => AnyZI.keys_in Try.keysA Fence.wide 5 trivial rfl mb W
  have cS := AnyZI.sorted_in Try.sortedA Fence.wide 5 trivial trivial trivial trivial rfl (by omega) (shelf_sorts _) (enters_of Try.func108 (by kernel_rfl) rfl) 109 #[.pointer (some ⟨w.heap.size, 0, none⟩)] trivial (enters_of Try.func109 (by kernel_rfl) rfl) _ _ (by rw [hms]; simp only [maxLen]; omega) (by rw [hms]; omega) _ hseq
  change CallsIn _ _ Try.prog 104 _ _ _ at cS
  have hfK : Fence.wide.fn 105 := trivial
  have hfS : Fence.wide.fn 104 := trivial
  refine callsIn_of_wp Try.func95 rfl trivial ?_ rfl
  simp only [Try.ntmps95, List.size_toArray, List.length_cons, List.length_nil, Nat.reduceAdd, Nat.reduceSub, Array.replicate_succ, Array.replicate_zero, List.push_toArray, List.append_toArray, List.nil_append, List.cons_append]
  gi_wp2_with (first
    | (gi_at_call 105; refine (cK _ _).mono ?_; rintro e w' ⟨rfl, rfl⟩)
    | (gi_at_call 104; refine cS.mono ?_; rintro e w' ⟨v, ss, rfl, hS, hrow, hnil, hb⟩))
  go_ret
  have hss : ss.Perm D.waitI := hS.trans (hkp.trans hper)
  rw [sort_wait hss, hss.length_eq] at hrow
  have e1 : D.waitI.map encZ = D.waiting.map encI := by unfold Dev.waitI; rw [List.map_map]; rfl
  have e2 : D.waitI.length = D.waiting.length := by unfold Dev.waitI; simp
  rw [e1, e2] at hrow
  refine ⟨v, rfl, ownsRow_base_a hrow (by simp), ?_⟩
  exact ((Chg.refl _ w).alloc _).trans (Chg.ofBelow hb)
end Go.Proofs.Ytinofdfjaopdcaa
