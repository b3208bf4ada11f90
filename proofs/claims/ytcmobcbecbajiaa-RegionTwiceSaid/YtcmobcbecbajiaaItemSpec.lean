/- Lists of items in bytes, in plain Lean. -/
import Derived.Test.YtcmobcbecbajiaaRecSpec
namespace Go.Proofs.Ytcmobcbecbajiaa
open Go.RowKit

theorem take_ok_len {b : List UInt8} {x : Item} {n : Nat} (h : take b = .ok x n) : 32 < n ∧ n ≤ b.length ∧ x.good = true ∧ x.size = n := by
  unfold take at h
  split at h
  · cases h
  · rename_i h0
    split at h
    · rename_i hh
      simp only [Bool.and_eq_true] at hh
      obtain ⟨⟨h1, h2⟩, h3⟩ := hh
      injection h with e1 e2
      subst e1; subst e2
      simp only [bodyOk, Bool.and_eq_true, decide_eq_true_eq] at h2
      have h4 := h3
      simp only [Item.good, Bool.and_eq_true, decide_eq_true_eq] at h4
      have hk : (itemOf b).key.size = keyLen b := by
        simp only [itemOf, cut]
        show (List.toArray _).size = _
        simp
        have := h2.1
        unfold endOf at this
        omega
      have hv : (itemOf b).val.size = valLen b := by
        simp only [itemOf, cut]
        show (List.toArray _).size = _
        simp
        have := h2.1
        unfold endOf at this ⊢
        omega
      refine ⟨?_, h2.1, h3, ?_⟩
      · unfold endOf; omega
      · unfold Item.size endOf; omega
    · cases h

/-- the items of bytes, k records at most; none: they have no form -/
def lst : Nat → List UInt8 → Option (List Item)
  | 0, _ => none
  | k + 1, b => match take b with
    | .none => some []
    | .bad => none
    | .ok x n => (lst k (b.drop n)).map (x :: ·)
def listOf (b : List UInt8) : Option (List Item) := lst (b.length + 1) b

theorem lst_more {k : Nat} : ∀ {b : List UInt8}, b.length < k → lst k b = lst (k + 1) b := by
  induction k with
  | zero => intro b h; omega
  | succ k ih =>
    intro b h
    rw [lst, lst]
    cases ht : take b with
    | none => rfl
    | bad => rfl
    | ok x n =>
      have hl := take_ok_len ht
      simp only
      rw [ih (by rw [List.length_drop]; omega)]
theorem lst_listOf {k : Nat} {b : List UInt8} (h : b.length < k) : lst k b = listOf b := by
  unfold listOf
  obtain ⟨d, rfl⟩ : ∃ d, k = b.length + 1 + d := ⟨k - (b.length + 1), by omega⟩
  clear h
  induction d with
  | zero => rfl
  | succ d ih => rw [← ih, ← Nat.add_assoc, ← lst_more (by omega)]
theorem listOf_step (b : List UInt8) : listOf b = match take b with
    | .none => some []
    | .bad => none
    | .ok x n => (listOf (b.drop n)).map (x :: ·) := by
  unfold listOf
  rw [lst]
  cases ht : take b with
  | none => rfl
  | bad => rfl
  | ok x n =>
    have hl := take_ok_len ht
    simp only
    rw [lst_listOf (by rw [List.length_drop]; omega), listOf]

/-- what List answers: the error; the items -/
def listE (b : List UInt8) : Int := if (listOf b).isSome then 0 else 3
def listL (b : List UInt8) : List Item := (listOf b).getD []

/-- records, one behind the other -/
def records (l : List Item) : List UInt8 := l.flatMap record
def goods (l : List Item) : Bool := l.all (·.good)
/-- what Lay answers: the error, the bytes -/
def layE (l : List Item) (room : Int) : Int := if goods l then (if 65536 < room then 1 else if room < (records l).length then 7 else 0) else 1
def layB (l : List Item) (room : Int) : List UInt8 := if layE l room = 0 then records l ++ List.replicate (room.toNat - (records l).length) 0 else []
end Go.Proofs.Ytcmobcbecbajiaa
