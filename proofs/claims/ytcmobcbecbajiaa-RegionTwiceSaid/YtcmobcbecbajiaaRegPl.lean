/- The log in regions: plain laws of its keys. -/
import Derived.Test.YtcmobcbecbajiaaRegSpec
namespace Go.Proofs.Ytcmobcbecbajiaa
open Go.RowKit
set_option linter.unusedSimpArgs false
set_option linter.unusedVariables false

theorem zip_get {l : List Item} {k : Nat} {x : Item} (h : l[k]? = some x) : l.zipIdx[k]? = some (x, k) := by
  rw [List.getElem?_zipIdx, h]; simp
theorem foldl_take {α β : Type} (f : β → α → β) (b : β) (l : List α) (k : Nat) (x : α) (h : l[k]? = some x) : (l.take (k + 1)).foldl f b = f ((l.take k).foldl f b) x := by
  rw [List.take_add_one, h, Option.toList, List.foldl_append]; rfl

/-! giving a region away -/
def giveS (i : Nat) (s : List Item × Keys) (p : Item × Nat) : List Item × Keys := if aget s.2 p.1.key = some ⟨false, i, p.2⟩ then (s.1 ++ [p.1], adel s.2 p.1.key) else s
def giveT (i : Nat) (ks : Keys) (l : List Item) (k : Nat) : List Item × Keys := (l.zipIdx.take k).foldl (giveS i) ([], ks)
theorem giveT_zero (i : Nat) (ks : Keys) (l : List Item) : giveT i ks l 0 = ([], ks) := rfl
theorem giveT_succ (i : Nat) (ks : Keys) {l : List Item} {k : Nat} {x : Item} (h : l[k]? = some x) : giveT i ks l (k + 1) = giveS i (giveT i ks l k) (x, k) := foldl_take _ _ _ _ _ (zip_get h)
theorem giveT_all (i : Nat) (ks : Keys) (l : List Item) : giveT i ks l l.length = giveK i ks l := by
  unfold giveT
  rw [List.take_of_length_le (by simp)]
  rfl
theorem giveT_len (i : Nat) (ks : Keys) (l : List Item) (k : Nat) (hk : k ≤ l.length) : (giveT i ks l k).1.length ≤ k := by
  induction k with
  | zero => simp [giveT_zero]
  | succ k ih =>
    rw [giveT_succ i ks (List.getElem?_eq_getElem (by omega : k < l.length))]
    have := ih (by omega)
    unfold giveS
    split
    · simp; omega
    · omega
theorem giveT_nodup (i : Nat) (ks : Keys) (l : List Item) (hn : (akeys ks).Nodup) (k : Nat) (hk : k ≤ l.length) : (akeys (giveT i ks l k).2).Nodup := by
  induction k with
  | zero => exact hn
  | succ k ih =>
    rw [giveT_succ i ks (List.getElem?_eq_getElem (by omega : k < l.length))]
    unfold giveS
    split
    · exact nodup_adel _ _ (ih (by omega))
    · exact ih (by omega)
/-- keys are only let go -/
theorem giveT_sub (i : Nat) (ks : Keys) (l : List Item) (hn : (akeys ks).Nodup) (k : Nat) (hk : k ≤ l.length) : ∀ key p, aget (giveT i ks l k).2 key = some p → aget ks key = some p := by
  induction k with
  | zero => intro key p h; exact h
  | succ k ih =>
    intro key p h
    rw [giveT_succ i ks (List.getElem?_eq_getElem (by omega : k < l.length))] at h
    unfold giveS at h
    split at h
    · simp only at h
      rw [aget_adel _ (giveT_nodup i ks l hn k (by omega))] at h
      split at h
      · cases h
      · exact ih (by omega) key p h
    · exact ih (by omega) key p h
/-- no key stands in the part that was gone through -/
theorem giveT_none (i : Nat) (ks : Keys) (l : List Item) (hn : (akeys ks).Nodup) (hv : ∀ key k, aget ks key = some ⟨false, i, k⟩ → ∃ x, l[k]? = some x ∧ x.key = key) (k : Nat) (hk : k ≤ l.length) :
    ∀ key j, aget (giveT i ks l k).2 key = some ⟨false, i, j⟩ → k ≤ j := by
  induction k with
  | zero => intro key j _; exact Nat.zero_le _
  | succ k ih =>
    intro key j h
    have hlt : k < l.length := by omega
    have hsub := giveT_sub i ks l hn (k + 1) hk key _ h
    obtain ⟨y, hy, hyk⟩ := hv key j hsub
    rw [giveT_succ i ks (List.getElem?_eq_getElem hlt)] at h
    unfold giveS at h
    have hne : j ≠ k := by
      rintro rfl
      have hxy : l[j] = y := by rw [List.getElem?_eq_getElem hlt] at hy; exact Option.some.inj hy
      simp only [hxy, hyk] at h
      split at h
      · simp only at h
        rw [aget_adel _ (giveT_nodup i ks l hn j (by omega)), if_pos rfl] at h
        cases h
      · rename_i hno
        exact hno h
    have : aget (giveT i ks l k).2 key = some ⟨false, i, j⟩ := by
      split at h
      · simp only at h
        rw [aget_adel _ (giveT_nodup i ks l hn k (by omega))] at h
        split at h
        · cases h
        · exact h
      · exact h
    have := ih (by omega) key j this
    omega

/-! the sealed one's keys are moved -/
def moveS (i : Nat) (ks : Keys) (p : Item × Nat) : Keys := if aget ks p.1.key = some ⟨true, 0, p.2⟩ then aset ks p.1.key ⟨false, i, p.2⟩ else ks
def moveT (i : Nat) (ks : Keys) (l : List Item) (k : Nat) : Keys := (l.zipIdx.take k).foldl (moveS i) ks
theorem moveT_zero (i : Nat) (ks : Keys) (l : List Item) : moveT i ks l 0 = ks := rfl
theorem moveT_succ (i : Nat) (ks : Keys) {l : List Item} {k : Nat} {x : Item} (h : l[k]? = some x) : moveT i ks l (k + 1) = moveS i (moveT i ks l k) (x, k) := foldl_take _ _ _ _ _ (zip_get h)
theorem moveT_all (i : Nat) (ks : Keys) (l : List Item) : moveT i ks l l.length = moveK i ks l := by
  unfold moveT
  rw [List.take_of_length_le (by simp)]
  rfl
theorem moveT_nodup (i : Nat) (ks : Keys) (l : List Item) (hn : (akeys ks).Nodup) (k : Nat) (hk : k ≤ l.length) : (akeys (moveT i ks l k)).Nodup := by
  induction k with
  | zero => exact hn
  | succ k ih =>
    rw [moveT_succ i ks (List.getElem?_eq_getElem (by omega : k < l.length))]
    unfold moveS
    split
    · exact nodup_aset _ _ _ (ih (by omega))
    · exact ih (by omega)
/-- what a key has then -/
def moved (i : Nat) (k : Nat) (p : Pl) : Pl := if p.op = true ∧ p.ix < k then ⟨false, i, p.ix⟩ else p
theorem moveT_get (i : Nat) (ks : Keys) (l : List Item) (hv : ∀ key p, aget ks key = some p → p.op = true → p.rg = 0 ∧ ∃ x, l[p.ix]? = some x ∧ x.key = key) (k : Nat) (hk : k ≤ l.length) (key : ByteArray) :
    aget (moveT i ks l k) key = (aget ks key).map (moved i k) := by
  induction k with
  | zero =>
    rw [moveT_zero]
    cases h : aget ks key with
    | none => rfl
    | some p => simp [moved]
  | succ k ih =>
    have hlt : k < l.length := by omega
    have ih := ih (by omega)
    have hx : l[k]? = some l[k] := List.getElem?_eq_getElem hlt
    rw [moveT_succ i ks hx]
    generalize hxe : l[k] = x at hx
    unfold moveS
    by_cases hkey : x.key = key
    · subst hkey
      simp only
      rw [ih]
      cases h : aget ks x.key with
      | none => simp [ih, h]
      | some p =>
        simp only [Option.map_some, Option.some.injEq]
        by_cases hp : p.op = true ∧ p.ix = k
        · have hv1 := hv _ _ h hp.1
          have e1 : moved i k p = ⟨true, 0, k⟩ := by
            unfold moved
            rw [if_neg (by omega)]
            obtain ⟨op, rg, ix⟩ := p
            simp only at hp hv1
            rw [hp.1, hp.2, hv1.1]
          rw [if_pos e1, aget_aset, if_pos rfl]
          unfold moved
          rw [if_pos ⟨hp.1, by omega⟩, hp.2]
        · have e1 : ¬ moved i k p = ⟨true, 0, k⟩ := by
            intro e
            unfold moved at e
            split at e
            · cases e
            · subst e; exact hp ⟨rfl, rfl⟩
          rw [if_neg e1, ih, h]
          simp only [Option.map_some, Option.some.injEq]
          unfold moved
          by_cases h2 : p.op = true ∧ p.ix < k
          · rw [if_pos h2, if_pos ⟨h2.1, by omega⟩]
          · rw [if_neg h2, if_neg (fun h3 => h2 ⟨h3.1, by have : p.ix ≠ k := fun e => hp ⟨h3.1, e⟩; omega⟩)]
    · have hgoal : (aget ks key).map (moved i (k + 1)) = (aget ks key).map (moved i k) := by
        cases h : aget ks key with
        | none => rfl
        | some p =>
          simp only [Option.map_some, Option.some.injEq]
          unfold moved
          by_cases h2 : p.op = true ∧ p.ix < k
          · rw [if_pos h2, if_pos ⟨h2.1, by omega⟩]
          · rw [if_neg h2, if_neg (fun h3 => h2 ⟨h3.1, ?_⟩)]
            have hne : p.ix ≠ k := by
              intro e
              obtain ⟨_, y, hy, hyk⟩ := hv key p h h3.1
              rw [e, hx] at hy
              injection hy with hy
              exact hkey (by rw [hy]; exact hyk)
            omega
      rw [hgoal]
      split
      · rw [aget_aset, if_neg hkey]; exact ih
      · exact ih

/-! keys that an opened log lays -/
theorem layK_get (i : Nat) (l : List Item) : ∀ (ks : Keys) (j : Nat) (key : ByteArray) (p : Pl), aget ((l.zipIdx j).foldl (fun ks p => aset ks p.1.key ⟨false, i, p.2⟩) ks) key = some p →
    aget ks key = some p ∨ ∃ k x, p = ⟨false, i, j + k⟩ ∧ l[k]? = some x ∧ x.key = key := by
  induction l with
  | nil => intro ks j key p h; exact .inl h
  | cons x r ih =>
    intro ks j key p h
    rw [List.zipIdx_cons, List.foldl_cons] at h
    rcases ih _ (j + 1) key p h with h | ⟨k, y, e, hy, hk⟩
    · rw [aget_aset] at h
      split at h
      · rename_i hk
        injection h with h
        exact .inr ⟨0, x, by rw [← h]; rfl, rfl, hk⟩
      · exact .inl h
    · exact .inr ⟨k + 1, y, by rw [e]; congr 1; omega, hy, hk⟩
end Go.Proofs.Ytcmobcbecbajiaa
