/- Hashes and filters, in plain Lean. -/
import Derived.Test.YtinofdfjaopdcaaRecSpec
namespace Go.Proofs.Ytinofdfjaopdcaa
open Go.RowKit

def hprime : Nat := 1099511628211
def hbegin : Nat := 14695981039346656037
def hstep (h : Nat) (c : UInt8) : Nat := ((h ^^^ c.toNat) * hprime) % 18446744073709551616
def hfold (h : Nat) (s : List UInt8) : Nat := s.foldl hstep h
def khash (s : List UInt8) : Nat := hfold hbegin s
def ksecond (s : List UInt8) : Nat := hfold (hfold hprime [0]) s
theorem hstep_lt (h : Nat) (c : UInt8) : hstep h c < 18446744073709551616 := Nat.mod_lt _ (by decide)
theorem hfold_lt {h : Nat} (hh : h < 18446744073709551616) (s : List UInt8) : hfold h s < 18446744073709551616 := by
  induction s generalizing h with
  | nil => exact hh
  | cons c r ih => exact ih (hstep_lt h c)
theorem khash_lt (s : List UInt8) : khash s < 18446744073709551616 := hfold_lt (by decide) s
theorem ksecond_lt (s : List UInt8) : ksecond s < 18446744073709551616 := hfold_lt (hfold_lt (by decide) _) s
theorem xor_lt64 {a b : Nat} (ha : a < 18446744073709551616) (hb : b < 18446744073709551616) : a ^^^ b < 18446744073709551616 := Nat.xor_lt_two_pow (n := 64) ha hb

theorem bits_xor64 (a b : Nat) (ha : a < 18446744073709551616) (hb : b < 18446744073709551616) : bits .xor .u64 (a : Int) (b : Int) = ((a ^^^ b : Nat) : Int) := by
  have ha' : a % 2 ^ IntKind.u64.bits = a := Nat.mod_eq_of_lt ha
  have hb' : b % 2 ^ IntKind.u64.bits = b := Nat.mod_eq_of_lt hb
  simp only [bits, BitVec.ofInt_natCast, BitVec.toNat_xor, BitVec.toNat_ofNat, ha', hb']
  exact wraps_u64 _ (by omega) (by have := xor_lt64 ha hb; show ((a ^^^ b : Nat) : Int) < _; omega)
theorem bits_or1 (a : Nat) (ha : a < 18446744073709551616) : bits .or .u64 (a : Int) 1 = ((a ||| 1 : Nat) : Int) :=
  (bits_nat .u64 64 (by decide) (fun n h1 h2 => wraps_u64 n h1 h2) a 1 (by omega) (by decide)).2
theorem or1_lt {a : Nat} (ha : a < 18446744073709551616) : a ||| 1 < 18446744073709551616 := Nat.or_lt_two_pow (n := 64) ha (by decide)

/-! filters -/
/-- a key's places, from the i-th turn on -/
def placesFrom (n h step : Nat) : Nat → List Nat
  | 0 => []
  | k + 1 => h % n :: placesFrom n ((h + step) % 18446744073709551616) step k
def places (n turns : Nat) (key : List UInt8) : List Nat := placesFrom n (khash key) (ksecond key ||| 1) turns
def fadd (bs : List Bool) (ps : List Nat) : List Bool := ps.foldl (fun l i => l.set i true) bs
def fmay (bs : List Bool) (ps : List Nat) : Bool := ps.all fun i => bs.getD i false
theorem placesFrom_length (n h step k : Nat) : (placesFrom n h step k).length = k := by
  induction k generalizing h with
  | zero => rfl
  | succ k ih => simp [placesFrom, ih]
theorem placesFrom_lt {n : Nat} (hn : 0 < n) (h step k : Nat) : ∀ i ∈ placesFrom n h step k, i < n := by
  induction k generalizing h with
  | zero => intro i hi; cases hi
  | succ k ih =>
    intro i hi
    rcases List.mem_cons.1 hi with rfl | hi
    · exact Nat.mod_lt _ hn
    · exact ih _ i hi
theorem places_lt {n : Nat} (hn : 0 < n) (turns : Nat) (key : List UInt8) : ∀ i ∈ places n turns key, i < n := placesFrom_lt hn _ _ _
theorem places_length (n turns : Nat) (key : List UInt8) : (places n turns key).length = turns := placesFrom_length _ _ _ _
theorem fadd_length (bs : List Bool) (ps : List Nat) : (fadd bs ps).length = bs.length := by
  induction ps generalizing bs with
  | nil => rfl
  | cons p r ih => simp only [fadd, List.foldl_cons]; rw [show List.foldl (fun l i => l.set i true) (bs.set p true) r = fadd (bs.set p true) r from rfl, ih]; simp
theorem fadd_keeps (bs : List Bool) (ps : List Nat) (i : Nat) (h : bs.getD i false = true) : (fadd bs ps).getD i false = true := by
  induction ps generalizing bs with
  | nil => exact h
  | cons p r ih =>
    simp only [fadd, List.foldl_cons]
    refine ih (bs.set p true) ?_
    simp only [List.getD_eq_getElem?_getD, List.getElem?_set] at h ⊢
    split
    · rename_i e
      subst e
      split
      · rfl
      · rename_i hlt
        rw [List.getElem?_eq_none (by omega)] at h
        exact h
    · exact h
theorem fadd_has (bs : List Bool) (ps : List Nat) (i : Nat) (hi : i ∈ ps) (hl : i < bs.length) : (fadd bs ps).getD i false = true := by
  induction ps generalizing bs with
  | nil => cases hi
  | cons p r ih =>
    simp only [fadd, List.foldl_cons]
    rcases List.mem_cons.1 hi with rfl | hi
    · refine fadd_keeps (bs.set i true) r i ?_
      simp [List.getD_eq_getElem?_getD, hl]
    · exact ih (bs.set p true) hi (by simpa using hl)
/-- what was added may be there -/
theorem fmay_fadd (bs : List Bool) (ps : List Nat) (h : ∀ i ∈ ps, i < bs.length) : fmay (fadd bs ps) ps = true := by
  simp only [fmay, List.all_eq_true]
  exact fun i hi => fadd_has bs ps i hi (h i hi)
theorem fmay_keeps (bs : List Bool) (ps qs : List Nat) (h : fmay bs qs = true) : fmay (fadd bs ps) qs = true := by
  simp only [fmay, List.all_eq_true] at h ⊢
  exact fun i hi => fadd_keeps bs ps i (h i hi)
end Go.Proofs.Ytinofdfjaopdcaa
