/- Records in bytes, in plain Lean. -/
import Derived.Test.YtedkoplgfidjlaaDoorFlashSpec
import Derived.Laws.BitsLemmas
import Derived.Lib.EndianBits
namespace Go.Proofs.YtedkoplgfidjlaaDoor
open Go.RowKit

structure Item where
  key : ByteArray
  val : ByteArray
  flags : UInt32
  exp : Int64
  ver : UInt64
  deriving DecidableEq

namespace Item
def zero : Item := { key := ByteArray.empty, val := ByteArray.empty, flags := 0, exp := 0, ver := 0 }
def good (x : Item) : Bool := decide (1 ≤ x.key.size) && decide (x.key.size ≤ 250) && decide (x.val.size ≤ 1024) && decide (0 < x.ver.toNat)
def size (x : Item) : Nat := 32 + x.key.size + x.val.size
end Item

/-- a number's bytes, the lowest first -/
def le : Nat → Nat → List UInt8
  | 0, _ => []
  | n + 1, v => UInt8.ofNat v :: le n (v / 256)
def num : List UInt8 → Nat
  | [] => 0
  | x :: r => x.toNat + 256 * num r

theorem le_length (n : Nat) : ∀ v, (le n v).length = n := by
  induction n with
  | zero => intro v; rfl
  | succ n ih => intro v; simp [le, ih]
theorem le_snoc (n : Nat) : ∀ v, le (n + 1) v = le n v ++ [UInt8.ofNat (v / 256 ^ n)] := by
  induction n with
  | zero => intro v; simp [le]
  | succ n ih =>
    intro v
    rw [le, ih (v / 256), le]
    simp only [List.cons_append, List.cons.injEq, true_and]
    rw [Nat.div_div_eq_div_mul, Nat.pow_succ, Nat.mul_comm]
theorem num_lt (l : List UInt8) : num l < 256 ^ l.length := by
  induction l with
  | nil => simp [num]
  | cons x r ih =>
    simp only [num, List.length_cons, Nat.pow_succ]
    have := x.toNat_lt
    omega
theorem num_le (n : Nat) : ∀ v, num (le n v) = v % 256 ^ n := by
  induction n with
  | zero => intro v; simp [le, num, Nat.mod_one]
  | succ n ih =>
    intro v
    simp only [le, num, ih]
    rw [Nat.pow_succ', Nat.mod_mul]
    simp
theorem num_le_of_lt {n v : Nat} (h : v < 256 ^ n) : num (le n v) = v := by rw [num_le, Nat.mod_eq_of_lt h]

/-! the check -/
def poly : Nat := 2197175160
def crcStep (z : Nat) : Nat := if z % 2 = 1 then (z / 2) ^^^ poly else z / 2
def crcRep : Nat → Nat → Nat
  | 0, z => z
  | k + 1, z => crcStep (crcRep k z)
def crcByte (z : Nat) (x : UInt8) : Nat := crcRep 8 (z ^^^ x.toNat)
def flip32 (z : Nat) : Nat := 4294967295 ^^^ z
def more (s : Nat) (b : List UInt8) : Nat := flip32 (b.foldl crcByte (flip32 s))
def crc (b : List UInt8) : Nat := more 0 b

theorem xor_lt32 {a b : Nat} (ha : a < 4294967296) (hb : b < 4294967296) : a ^^^ b < 4294967296 := Nat.xor_lt_two_pow (n := 32) ha hb
theorem crcStep_lt {z : Nat} (h : z < 4294967296) : crcStep z < 4294967296 := by
  unfold crcStep
  split
  · exact xor_lt32 (by omega) (by decide)
  · omega
theorem crcRep_lt (k : Nat) {z : Nat} (h : z < 4294967296) : crcRep k z < 4294967296 := by
  induction k with
  | zero => exact h
  | succ k ih => exact crcStep_lt ih
theorem crcByte_lt {z : Nat} (h : z < 4294967296) (x : UInt8) : crcByte z x < 4294967296 := crcRep_lt 8 (xor_lt32 h (by have := x.toNat_lt; omega))
theorem foldl_lt (b : List UInt8) : ∀ {z : Nat}, z < 4294967296 → b.foldl crcByte z < 4294967296 := by
  induction b with
  | nil => intro z h; exact h
  | cons x r ih => intro z h; exact ih (crcByte_lt h x)
theorem flip_lt {z : Nat} (h : z < 4294967296) : flip32 z < 4294967296 := xor_lt32 (by decide) h
theorem more_lt {s : Nat} (h : s < 4294967296) (b : List UInt8) : more s b < 4294967296 := flip_lt (foldl_lt b (flip_lt h))
theorem crc_lt (b : List UInt8) : crc b < 4294967296 := more_lt (by decide) b

theorem bits_xor32 (a b : Nat) (ha : a < 4294967296) (hb : b < 4294967296) : bits .xor .u32 (a : Int) (b : Int) = ((a ^^^ b : Nat) : Int) := by
  have ha' : a % 2 ^ IntKind.u32.bits = a := Nat.mod_eq_of_lt ha
  have hb' : b % 2 ^ IntKind.u32.bits = b := Nat.mod_eq_of_lt hb
  simp only [bits, BitVec.ofInt_natCast, BitVec.toNat_xor, BitVec.toNat_ofNat, ha', hb']
  exact wraps_u32 _ (by omega) (by have := xor_lt32 ha hb; show ((a ^^^ b : Nat) : Int) < _; omega)
theorem bits_and1 (a : Nat) (ha : a < 4294967296) : bits .and .u32 (a : Int) 1 = ((a % 2 : Nat) : Int) := by
  have h := bits_mask .u32 32 (by decide) (fun n h1 h2 => wraps_u32 n h1 h2) 1 (by decide) (a : Int) (by omega) (by omega)
  simpa using h
theorem bits_or_byte (q : Nat) (x : UInt8) (hq : q < 72057594037927936) : bits .or .u64 ((q : Int) * 256) (IntKind.u64.wrap (x.toNat : Int)) = ((x.toNat + 256 * q : Nat) : Int) := by
  have hx := x.toNat_lt
  rw [wraps_u64 _ (by omega) (by omega)]
  have h := bits_join .u64 64 (by decide) (fun n h1 h2 => wraps_u64 n h1 h2) 8 ((q : Int) * 256) (x.toNat : Int) (by omega) (by omega) (by omega) (by omega) (by omega) (by omega)
  rw [h]; omega

/-! a record -/
/-- the bytes of a record ahead of its two checks -/
def hd24 (x : Item) : List UInt8 := UInt8.ofNat x.key.size :: (le 2 x.val.size ++ (82 :: (le 4 x.flags.toNat ++ (le 8 x.exp.toUInt64.toNat ++ le 8 x.ver.toNat))))
def body (x : Item) : List UInt8 := x.key.data.toList ++ x.val.data.toList
def record (x : Item) : List UInt8 := hd24 x ++ (le 4 (crc (hd24 x)) ++ (le 4 (crc (body x)) ++ body x))

theorem hd24_length (x : Item) : (hd24 x).length = 24 := by simp [hd24, le_length]
theorem body_length (x : Item) : (body x).length = x.key.size + x.val.size := by
  unfold body
  rw [List.length_append, Array.length_toList, Array.length_toList]
  rfl
theorem record_length (x : Item) : (record x).length = x.size := by
  simp only [record, List.length_append, hd24_length, le_length, body_length, Item.size]
  omega

/-- what Take answers -/
inductive Tk where
  | none
  | bad
  | ok (x : Item) (n : Nat)
def Tk.err : Tk → Int
  | .none => 5
  | .bad => 3
  | .ok _ _ => 0
def Tk.item : Tk → Item
  | .ok x _ => x
  | _ => Item.zero
def Tk.len : Tk → Nat
  | .ok _ n => n
  | _ => 0

def cut (b : List UInt8) (i j : Nat) : List UInt8 := (b.drop i).take (j - i)
def keyLen (b : List UInt8) : Nat := (b.getD 0 0).toNat
def valLen (b : List UInt8) : Nat := num (cut b 1 3)
def endOf (b : List UInt8) : Nat := 32 + keyLen b + valLen b
def itemOf (b : List UInt8) : Item :=
  { key := ⟨(cut b 32 (32 + keyLen b)).toArray⟩, val := ⟨(cut b (32 + keyLen b) (endOf b)).toArray⟩, flags := UInt32.ofNat (num (cut b 4 8)), exp := (UInt64.ofNat (num (cut b 8 16))).toInt64, ver := UInt64.ofNat (num (cut b 16 24)) }
/-- may the first 24 bytes be a record's? -/
def headOk (b : List UInt8) : Bool := decide (32 ≤ b.length) && (b.getD 3 0 == 82) && decide (num (cut b 24 28) = crc (cut b 0 24))
def bodyOk (b : List UInt8) : Bool := decide (endOf b ≤ b.length) && decide (num (cut b 28 32) = crc (cut b 32 (endOf b)))
def take (b : List UInt8) : Tk :=
  if b.length = 0 ∨ b.getD 0 0 = 0 then .none
  else if headOk b && bodyOk b && (itemOf b).good then .ok (itemOf b) (endOf b)
  else .bad
end Go.Proofs.YtedkoplgfidjlaaDoor
