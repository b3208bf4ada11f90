/- Plain laws of what Items tells. -/
import Derived.Test.YtedkoplgfidjlaaDoorMdlM
namespace Go.Proofs.YtedkoplgfidjlaaDoor
set_option linter.unusedSimpArgs false
set_option linter.unusedVariables false

section
variable {es : Its} {now : Int}
theorem mget_item {es : Its} (hok : ItsOk es) {k : ByteArray} {x : Item} (h : mget es k now = some x) : x.key = k ∧ aget es k = some x ∧ live x now = true := by
  unfold mget at h
  obtain ⟨h1, h2⟩ := Option.filter_eq_some_iff.1 h
  exact ⟨(hok _ (aget_mem h1)).1, h1, h2⟩
theorem mgetL_item (hok : ItsOk es) {s : List UInt8} {x : Item} (h : mgetL es now s = some x) : x.key.data.toList = s ∧ mget es x.key now = some x := by
  have h0 : mget es ⟨s.toArray⟩ now = some x := h
  obtain ⟨h1, _⟩ := mget_item hok h0
  refine ⟨by rw [h1], ?_⟩
  rw [h1]; exact h0
theorem bytes_back (k : ByteArray) : (⟨k.data.toList.toArray⟩ : ByteArray) = k := by simp
theorem mgetL_key (k : ByteArray) : mgetL es now k.data.toList = mget es k now := by
  unfold mgetL
  rw [bytes_back]
theorem leB_le {a b : List UInt8} : leB a b = true ↔ a ≤ b := by simp [leB]
theorem leB_tr : ∀ a b c : List UInt8, leB a b = true → leB b c = true → leB a c = true := fun a b c h1 h2 => by simp only [leB, decide_eq_true_eq] at *; exact List.le_trans h1 h2
theorem leB_to : ∀ a b : List UInt8, (leB a b || leB b a) = true := fun a b => by simp only [leB, Bool.or_eq_true, decide_eq_true_eq]; exact List.le_total a b
theorem sort_filter (l : List (List UInt8)) (p : List UInt8 → Bool) : (l.filter p).mergeSort leB = (l.mergeSort leB).filter p := by
  refine List.Perm.eq_of_pairwise (le := fun a b => leB a b = true) (fun a b _ _ h1 h2 => ?_) (List.pairwise_mergeSort leB_tr leB_to _) ((List.pairwise_mergeSort leB_tr leB_to l).filter p) ((List.mergeSort_perm _ leB).trans ((List.mergeSort_perm l leB).symm.filter p))
  simp only [leB, decide_eq_true_eq] at h1 h2
  exact List.le_antisymm h1 h2
theorem skeys_mem {s : List UInt8} : s ∈ skeys es ↔ ∃ k ∈ akeys es, k.data.toList = s := by
  unfold skeys
  rw [(List.mergeSort_perm _ leB).mem_iff, List.mem_map]
theorem toList_inj {a b : ByteArray} (h : a.data.toList = b.data.toList) : a = b := ByteArray.ext (Array.toList_inj.1 h)
theorem skeys_nodup (hn : (akeys es).Nodup) : (skeys es).Nodup := by
  unfold skeys
  refine (List.mergeSort_perm _ leB).nodup_iff.2 ?_
  exact List.pairwise_map.2 (hn.imp fun {a b} hne he => hne (toList_inj he))
theorem skeys_lt (hn : (akeys es).Nodup) : (skeys es).Pairwise (· < ·) := by
  have h1 : (skeys es).Pairwise (fun a b => leB a b = true) := List.pairwise_mergeSort leB_tr leB_to _
  refine (h1.and (skeys_nodup hn)).imp fun {a b} h => ?_
  have hle : a ≤ b := leB_le.1 h.1
  rcases List.le_iff_lt_or_eq.1 hle with h2 | h2
  · exact h2
  · exact absurd h2 h.2
theorem akeys_adel (hn : (akeys es).Nodup) (k : ByteArray) : akeys (adel es k) = (akeys es).filter (fun x => decide (x ≠ k)) := by
  induction es with
  | nil => rfl
  | cons p r ih =>
    simp only [akeys, List.map_cons, List.nodup_cons] at hn
    unfold adel
    by_cases hk : p.1 = k
    · rw [if_pos hk]
      show akeys r = ((p.1 :: akeys r).filter _)
      rw [List.filter_cons_of_neg (by simp [hk])]
      refine (List.filter_eq_self.2 fun x hx => ?_).symm
      simp only [ne_eq, decide_eq_true_eq]
      rintro rfl
      exact hn.1 (by rw [hk]; exact hx)
    · rw [if_neg hk]
      show p.1 :: akeys (adel r k) = ((p.1 :: akeys r).filter _)
      rw [List.filter_cons_of_pos (by simp [hk]), ih hn.2]
theorem skeys_adel (hn : (akeys es).Nodup) (k : ByteArray) : skeys (adel es k) = (skeys es).filter (fun s => decide (s ≠ k.data.toList)) := by
  unfold skeys
  rw [← sort_filter, akeys_adel hn, List.filter_map]
  congr 2
  refine List.filter_congr fun x _ => ?_
  simp only [Function.comp]
  refine decide_eq_decide.2 ⟨fun h he => h (toList_inj he), fun h he => h (by rw [he])⟩
theorem mget_adel (hn : (akeys es).Nodup) (k k' : ByteArray) : mget (adel es k) k' now = if k = k' then none else mget es k' now := by
  unfold mget
  rw [aget_adel es hn]
  split <;> rfl
theorem mitems_adel (hok : ItsOk es) (hn : (akeys es).Nodup) (k : ByteArray) : mitems (adel es k) now = (mitems es now).filter (fun x => decide (x.key ≠ k)) := by
  unfold mitems
  rw [skeys_adel hn]
  generalize skeys es = l
  induction l with
  | nil => rfl
  | cons s r ih =>
    by_cases hs : s = k.data.toList
    · rw [List.filter_cons_of_neg (by simp [hs]), ih]
      cases hm : mgetL es now s with
      | none => rw [List.filterMap_cons_none hm]
      | some x =>
        rw [List.filterMap_cons_some hm, List.filter_cons_of_neg]
        have := (mgetL_item hok hm).1
        simp only [ne_eq, decide_not, Bool.not_eq_true', decide_eq_false_iff_not, Decidable.not_not]
        exact toList_inj (this.trans hs)
    · rw [List.filter_cons_of_pos (by simp [hs])]
      have e : mgetL (adel es k) now s = mgetL es now s := by
        unfold mgetL
        rw [mget_adel hn, if_neg (fun he => hs (by rw [he]))]
      cases hm : mgetL es now s with
      | none => rw [List.filterMap_cons_none hm, List.filterMap_cons_none (by rw [e, hm]), ih]
      | some x =>
        rw [List.filterMap_cons_some hm, List.filterMap_cons_some (by rw [e, hm]), ih, List.filter_cons_of_pos]
        have := (mgetL_item hok hm).1
        simp only [ne_eq, decide_not, Bool.not_eq_true', decide_eq_false_iff_not]
        exact fun he => hs (by rw [← this, he])
/-- each item that Items tells is what Get tells -/
theorem mitems_get (hok : ItsOk es) {i : Nat} {x : Item} (h : (mitems es now)[i]? = some x) : mget es x.key now = some x := by
  have hm := List.mem_of_getElem? h
  obtain ⟨s, _, hs⟩ := List.mem_filterMap.1 hm
  exact (mgetL_item hok hs).2
theorem mitems_mem (hok : ItsOk es) {k : ByteArray} {x : Item} (h : mget es k now = some x) : x ∈ mitems es now := by
  have h1 := mget_item hok h
  refine List.mem_filterMap.2 ⟨k.data.toList, skeys_mem.2 ⟨k, ?_, rfl⟩, by rw [mgetL_key]; exact h⟩
  cases hh : aget es k with
  | none => rw [h1.2.1] at hh; cases hh
  | some y =>
    by_cases hk : k ∈ akeys es
    · exact hk
    · rw [aget_none.2 hk] at hh; cases hh
/-- rising by their keys' bytes -/
theorem mitems_rise (hok : ItsOk es) (hn : (akeys es).Nodup) : (mitems es now).Pairwise (fun a b => a.key.data.toList < b.key.data.toList) := by
  unfold mitems
  refine List.Pairwise.filterMap _ (R := fun a b => a < b) ?_ (skeys_lt hn)
  intro a a' haa x hx y hy
  rw [(mgetL_item hok hx).1, (mgetL_item hok hy).1]
  exact haa
theorem rise_at (hok : ItsOk es) (hn : (akeys es).Nodup) {i : Nat} {x y : Item} (hx : (mitems es now)[i]? = some x) (hy : (mitems es now)[i + 1]? = some y) : x.key.data.toList < y.key.data.toList := by
  obtain ⟨h1, rfl⟩ := List.getElem?_eq_some_iff.1 hx
  obtain ⟨h2, rfl⟩ := List.getElem?_eq_some_iff.1 hy
  exact List.pairwise_iff_getElem.1 (mitems_rise hok hn) i (i + 1) h1 h2 (Nat.lt_succ_self i)
/-- of a later moment -/
theorem live_ge {x : Item} {a b : Int} (h : a ≤ b) (hl : live x b = true) : live x a = true := by
  unfold live at hl ⊢
  simp only [Bool.or_eq_true, decide_eq_true_eq] at hl ⊢
  omega
theorem filterMap_sub {α β : Type} (l : List α) (f g : α → Option β) (h : ∀ x v, f x = some v → g x = some v) : (l.filterMap f).Sublist (l.filterMap g) := by
  induction l with
  | nil => exact List.Sublist.slnil
  | cons x r ih =>
    cases hf : f x with
    | none =>
      rw [List.filterMap_cons_none hf]
      cases hg : g x with
      | none => rw [List.filterMap_cons_none hg]; exact ih
      | some v => rw [List.filterMap_cons_some hg]; exact ih.cons _
    | some v => rw [List.filterMap_cons_some hf, List.filterMap_cons_some (h x v hf)]; exact ih.cons_cons _
theorem mitems_later (es : Its) {a b : Int} (h : a ≤ b) : (mitems es b).Sublist (mitems es a) := by
  refine filterMap_sub _ _ _ fun s v hs => ?_
  unfold mgetL mget at hs ⊢
  obtain ⟨h1, h2⟩ := Option.filter_eq_some_iff.1 hs
  exact Option.filter_eq_some_iff.2 ⟨h1, live_ge h h2⟩
/-- all keys lost -/
def adels (es : Its) (l : List Item) : Its := l.foldl (fun e x => adel e x.key) es
theorem adels_snoc (es : Its) (l : List Item) (x : Item) : adels es (l ++ [x]) = adel (adels es l) x.key := by simp [adels]
theorem adels_ok {es : Its} (hok : ItsOk es) (hn : (akeys es).Nodup) (l : List Item) : ItsOk (adels es l) ∧ (akeys (adels es l)).Nodup := by
  induction l generalizing es with
  | nil => exact ⟨hok, hn⟩
  | cons x r ih => exact ih (hok.del x.key) (by rw [akeys_adel hn]; exact hn.filter _)
theorem mitems_adels (hok : ItsOk es) (hn : (akeys es).Nodup) (l : List Item) : mitems (adels es l) now = (mitems es now).filter (fun x => l.all (fun y => decide (x.key ≠ y.key))) := by
  induction l generalizing es with
  | nil => exact (List.filter_eq_self.2 (fun x _ => rfl)).symm
  | cons y r ih =>
    show mitems (adels (adel es y.key) r) now = _
    rw [ih (hok.del y.key) (by rw [akeys_adel hn]; exact hn.filter _), mitems_adel hok hn, List.filter_filter]
    refine List.filter_congr fun x _ => ?_
    simp only [List.all_cons]
    rw [Bool.and_comm]
theorem mitems_gone (hok : ItsOk es) (hn : (akeys es).Nodup) : mitems (adels es (mitems es now)) now = [] := by
  rw [mitems_adels hok hn]
  refine List.filter_eq_nil_iff.2 fun x hx => ?_
  simp only [List.all_eq_true, decide_eq_true_eq]
  exact fun h => h x hx rfl
theorem mitems_len (es : Its) (now : Int) : (mitems es now).length ≤ es.length := by
  unfold mitems
  refine Nat.le_trans (List.length_filterMap_le _ _) ?_
  rw [skeys_length]; exact Nat.le_refl _
end
end Go.Proofs.YtedkoplgfidjlaaDoor
