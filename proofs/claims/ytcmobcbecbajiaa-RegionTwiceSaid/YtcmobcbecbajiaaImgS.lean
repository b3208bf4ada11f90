/- Images in plain Lean: pages, what Dump writes. -/
import Derived.Test.YtcmobcbecbajiaaItemSpec
import Derived.Test.YtcmobcbecbajiaaRound
namespace Go.Proofs.Ytcmobcbecbajiaa
open Go.RowKit
set_option linter.unusedSimpArgs false
set_option linter.unusedVariables false

/-- how many chunks bytes have; the j-th; a page's bytes ahead of a chunk; a page -/
def ckN (len : Nat) : Nat := (len + 375) / 376
def ck (b : List UInt8) (j : Nat) : List UInt8 := (b.drop (j * 376)).take 376
def pgHead (n j : Nat) : List UInt8 := [73, 77] ++ le 2 n ++ le 4 j
def pgOf (c : List UInt8) (j : Nat) : List UInt8 := pgHead c.length j ++ c
theorem ck_len (b : List UInt8) (j : Nat) : (ck b j).length = min 376 (b.length - j * 376) := by simp [ck]
theorem pgHead_len (n j : Nat) : (pgHead n j).length = 8 := by simp [pgHead, le_length]
theorem pgOf_len (c : List UInt8) (j : Nat) : (pgOf c j).length = 8 + c.length := by simp [pgOf, pgHead_len]

/-- may a device have such pages -/
def Dev.may (D : Dev) (first pages : Int) : Bool := decide (0 ≤ first) && decide (0 ≤ pages) && decide (first ≤ D.n) && decide (pages ≤ D.n - first)
/-- chunks, by their numbers, written one behind the other -/
def Dev.putL (D : Dev) (first : Int) (b : List UInt8) (l : List Nat) : Dev := l.zipIdx.foldl (fun D p => D.write (first + p.2) (pgOf (ck b p.1) p.2)) D
theorem Dev.putL_snoc (D : Dev) (first : Int) (b : List UInt8) (l : List Nat) (x : Nat) : D.putL first b (l ++ [x]) = (D.putL first b l).write (first + l.length) (pgOf (ck b x) l.length) := by
  unfold Dev.putL
  rw [List.zipIdx_append, List.foldl_append]
  simp
def Dev.putLE (D : Dev) (first : Int) (b : List UInt8) (l : List Nat) (x : Nat) : Int := (D.putL first b l).writeE (first + l.length) (pgOf (ck b x) l.length).length
/-- the first k chunks; the k-th's error -/
def Dev.puts (D : Dev) (first : Int) (b : List UInt8) (k : Nat) : Dev := D.putL first b (List.range k)
def Dev.putsE (D : Dev) (first : Int) (b : List UInt8) (k : Nat) : Int := D.putLE first b (List.range k) k
theorem Dev.puts_zero (D : Dev) (first : Int) (b : List UInt8) : D.puts first b 0 = D := rfl
theorem Dev.puts_succ (D : Dev) (first : Int) (b : List UInt8) (k : Nat) : D.puts first b (k + 1) = (D.puts first b k).write (first + k) (pgOf (ck b k) k) := by
  unfold Dev.puts
  rw [List.range_succ, Dev.putL_snoc]
  simp
theorem Dev.putsE_eq (D : Dev) (first : Int) (b : List UInt8) (k : Nat) : D.putsE first b k = (D.puts first b k).writeE (first + k) (pgOf (ck b k) k).length := by
  unfold Dev.putsE Dev.putLE Dev.puts
  simp

/-- how many of the items have room -/
def fitI (room : Int) : Nat → List Item → Nat
  | _, [] => 0
  | acc, x :: r => if ((acc + x.size : Nat) : Int) ≤ room then fitI room (acc + x.size) r + 1 else 0
def isum (l : List Item) : Nat := (l.map (·.size)).sum
theorem isum_records (l : List Item) : (records l).length = isum l := by
  induction l with
  | nil => rfl
  | cons x r ih => simp only [records, List.flatMap_cons, List.length_append, record_length, isum, List.map_cons, List.sum_cons] at ih ⊢; omega
theorem fitI_le (room : Int) : ∀ (l : List Item) (acc : Nat), fitI room acc l ≤ l.length := by
  intro l
  induction l with
  | nil => intro acc; exact Nat.le_refl _
  | cons x r ih =>
    intro acc
    rw [fitI]
    split
    · have := ih (acc + x.size); simp only [List.length_cons]; omega
    · exact Nat.zero_le _
theorem fitI_snoc (room : Int) : ∀ (l : List Item) (acc : Nat) (x : Item), fitI room acc (l ++ [x]) = if fitI room acc l = l.length ∧ ((acc + isum l + x.size : Nat) : Int) ≤ room then l.length + 1 else fitI room acc l := by
  intro l
  induction l with
  | nil =>
    intro acc x
    simp only [List.nil_append, fitI, isum, List.map_nil, List.sum_nil, List.length_nil, Nat.add_zero, true_and]
  | cons y r ih =>
    intro acc x
    rw [List.cons_append, fitI, fitI, ih (acc + y.size) x]
    have e : acc + y.size + isum r = acc + isum (y :: r) := by simp only [isum, List.map_cons, List.sum_cons]; omega
    rw [e]
    have hle := fitI_le room r (acc + y.size)
    by_cases h : ((acc + y.size : Nat) : Int) ≤ room
    · rw [if_pos h, if_pos h]
      by_cases h2 : fitI room (acc + y.size) r = r.length ∧ ((acc + isum (y :: r) + x.size : Nat) : Int) ≤ room
      · rw [if_pos h2, if_pos ⟨by simp only [List.length_cons]; omega, h2.2⟩]; simp only [List.length_cons]
      · rw [if_neg h2, if_neg (fun hh => h2 ⟨by have := hh.1; simp only [List.length_cons] at this; omega, hh.2⟩)]
    · rw [if_neg h, if_neg h, if_neg (fun hh => by have := hh.1; simp only [List.length_cons] at this; omega)]
/-- what fits has room -/
theorem fitI_room (room : Int) : ∀ (l : List Item) (acc : Nat), 0 < fitI room acc l → ((acc + isum (l.take (fitI room acc l)) : Nat) : Int) ≤ room := by
  intro l
  induction l with
  | nil => intro acc h; simp [fitI] at h
  | cons x r ih =>
    intro acc h
    rw [fitI] at h ⊢
    by_cases h1 : ((acc + x.size : Nat) : Int) ≤ room
    · rw [if_pos h1] at h ⊢
      rw [List.take_succ_cons]
      simp only [isum, List.map_cons, List.sum_cons]
      by_cases h2 : fitI room (acc + x.size) r = 0
      · rw [h2]; simpa using h1
      · have := ih (acc + x.size) (by omega)
        simp only [isum] at this
        rw [← Nat.add_assoc]
        exact this
    · rw [if_neg h1] at h; exact absurd h (by omega)

/-- what Dump answers: pages, items, the error, the device behind it -/
inductive DumpR (D : Dev) (first pages : Int) (l : List Item) : Nat → Nat → Int → Dev → Prop
  | arg : (D.may first pages && goods l) = false → DumpR D first pages l 0 0 1 D
  | cut (k : Nat) : (D.may first pages && goods l) = true → k < ckN (records (l.take (fitI (376 * pages) 0 l))).length →
      (∀ j, j < k → D.putsE first (records (l.take (fitI (376 * pages) 0 l))) j = 0) → D.putsE first (records (l.take (fitI (376 * pages) 0 l))) k ≠ 0 →
      DumpR D first pages l 0 0 (D.putsE first (records (l.take (fitI (376 * pages) 0 l))) k) (D.puts first (records (l.take (fitI (376 * pages) 0 l))) (k + 1))
  | noflush : (D.may first pages && goods l) = true → (∀ j, j < ckN (records (l.take (fitI (376 * pages) 0 l))).length → D.putsE first (records (l.take (fitI (376 * pages) 0 l))) j = 0) →
      (D.puts first (records (l.take (fitI (376 * pages) 0 l))) (ckN (records (l.take (fitI (376 * pages) 0 l))).length)).changeE ≠ 0 →
      DumpR D first pages l 0 0 (D.puts first (records (l.take (fitI (376 * pages) 0 l))) (ckN (records (l.take (fitI (376 * pages) 0 l))).length)).changeE (D.puts first (records (l.take (fitI (376 * pages) 0 l))) (ckN (records (l.take (fitI (376 * pages) 0 l))).length)).flush
  | ok : (D.may first pages && goods l) = true → (∀ j, j < ckN (records (l.take (fitI (376 * pages) 0 l))).length → D.putsE first (records (l.take (fitI (376 * pages) 0 l))) j = 0) →
      (D.puts first (records (l.take (fitI (376 * pages) 0 l))) (ckN (records (l.take (fitI (376 * pages) 0 l))).length)).changeE = 0 →
      DumpR D first pages l (ckN (records (l.take (fitI (376 * pages) 0 l))).length) (fitI (376 * pages) 0 l) 0 (D.puts first (records (l.take (fitI (376 * pages) 0 l))) (ckN (records (l.take (fitI (376 * pages) 0 l))).length)).flush
end Go.Proofs.Ytcmobcbecbajiaa
