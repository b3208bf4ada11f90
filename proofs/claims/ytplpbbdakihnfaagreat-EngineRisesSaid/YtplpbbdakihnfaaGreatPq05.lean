/- Packed texts: Round, ImgS, RegSpec, RegRep, RegC, RegD. -/
import Derived.Test.YtplpbbdakihnfaaGreatPq04
import Derived.Test.YtplpbbdakihnfaaGreatPq01
import Derived.Test.YtplpbbdakihnfaaGreatPq03
import Derived.WalkLawsBesides
import Derived.Deep.QuietTactic
import Derived.BigQuiet
import Derived.Deep.LoopGhost
import Derived.Deep.DrawnRows
import Derived.Deep.RegionHeld3
import Derived.RegionTactic
import Derived.ChangeAlike
import Derived.Laws.OwnMore
set_option linter.unusedSimpArgs false
set_option linter.unusedVariables false
section
namespace Go.Proofs.YtplpbbdakihnfaaGreat
open Go.RowKit
theorem cut_mid {b A M C : List UInt8} {i j : Nat} (hb : b = A ++ (M ++ C)) (hi : A.length = i) (hj : i + M.length = j) : cut b i j = M := by
  subst hb
  unfold cut
  rw [← hi, List.drop_left, ← hj, ← hi, Nat.add_sub_cancel_left, List.take_left]
theorem bytes_back (s : ByteArray) : (⟨s.data.toList.toArray⟩ : ByteArray) = s := by cases s; simp
set_option maxRecDepth 10000 in
theorem take_record (x : Item) (r : List UInt8) (hg : x.good = true) : take (record x ++ r) = .ok x x.size := by
  have hgg := hg
  simp only [Item.good, Bool.and_eq_true, decide_eq_true_eq] at hgg
  obtain ⟨⟨⟨g1, g2⟩, g3⟩, g4⟩ := hgg
  obtain ⟨b, hb⟩ : ∃ b, b = record x ++ r := ⟨_, rfl⟩
  rw [← hb]
  have hkl : x.key.data.toList.length = x.key.size := Array.length_toList
  have hvl : x.val.data.toList.length = x.val.size := Array.length_toList
  have k0 : keyLen b = x.key.size := by
    unfold keyLen
    rw [hb]
    simp [record, hd24, UInt8.toNat_ofNat']
    omega
  have b3 : b.getD 3 0 = 82 := by
    rw [hb]
    simp [record, hd24, le]
  have c00 : cut b 1 3 = le 2 x.val.size := cut_mid (A := [UInt8.ofNat x.key.size]) (C := (82 :: (le 4 x.flags.toNat ++ (le 8 x.exp.toUInt64.toNat ++ le 8 x.ver.toNat))) ++ ((le 4 (crc (hd24 x)) ++ (le 4 (crc (body x)) ++ body x)) ++ r)) (by rw [hb]; simp [record, hd24]) rfl (by rw [le_length])
  have hv0 : valLen b = x.val.size := by
    unfold valLen
    rw [c00]
    exact num_le_of_lt (by omega)
  have he : endOf b = x.size := by unfold endOf; rw [k0, hv0]; rfl
  have c1 : cut b 4 8 = le 4 x.flags.toNat := cut_mid (A := UInt8.ofNat x.key.size :: (le 2 x.val.size ++ [82])) (C := (le 8 x.exp.toUInt64.toNat ++ le 8 x.ver.toNat) ++ ((le 4 (crc (hd24 x)) ++ (le 4 (crc (body x)) ++ body x)) ++ r)) (by rw [hb]; simp [record, hd24]) (by simp [le_length]) (by rw [le_length])
  have c2 : cut b 8 16 = le 8 x.exp.toUInt64.toNat := cut_mid (A := UInt8.ofNat x.key.size :: (le 2 x.val.size ++ (82 :: le 4 x.flags.toNat))) (C := le 8 x.ver.toNat ++ ((le 4 (crc (hd24 x)) ++ (le 4 (crc (body x)) ++ body x)) ++ r)) (by rw [hb]; simp [record, hd24]) (by simp [le_length]) (by rw [le_length])
  have c3 : cut b 16 24 = le 8 x.ver.toNat := cut_mid (A := UInt8.ofNat x.key.size :: (le 2 x.val.size ++ (82 :: (le 4 x.flags.toNat ++ le 8 x.exp.toUInt64.toNat)))) (C := (le 4 (crc (hd24 x)) ++ (le 4 (crc (body x)) ++ body x)) ++ r) (by rw [hb]; simp [record, hd24]) (by simp [le_length]) (by rw [le_length])
  have c4 : cut b 0 24 = hd24 x := cut_mid (A := []) (C := (le 4 (crc (hd24 x)) ++ (le 4 (crc (body x)) ++ body x)) ++ r) (by rw [hb]; simp [record]) rfl (by rw [hd24_length])
  have c5 : cut b 24 28 = le 4 (crc (hd24 x)) := cut_mid (A := hd24 x) (C := (le 4 (crc (body x)) ++ body x) ++ r) (by rw [hb]; simp [record]) (hd24_length x) (by rw [le_length])
  have c6 : cut b 28 32 = le 4 (crc (body x)) := cut_mid (A := hd24 x ++ le 4 (crc (hd24 x))) (C := body x ++ r) (by rw [hb]; simp [record]) (by rw [List.length_append, hd24_length, le_length]) (by rw [le_length])
  have c7 : cut b 32 x.size = body x := cut_mid (A := hd24 x ++ (le 4 (crc (hd24 x)) ++ le 4 (crc (body x)))) (C := r) (by rw [hb]; simp [record]) (by simp only [List.length_append, hd24_length, le_length]) (by rw [body_length]; unfold Item.size; omega)
  have c8 : cut b 32 (32 + x.key.size) = x.key.data.toList := cut_mid (A := hd24 x ++ (le 4 (crc (hd24 x)) ++ le 4 (crc (body x)))) (C := x.val.data.toList ++ r) (by rw [hb]; simp [record, body]) (by simp only [List.length_append, hd24_length, le_length]) (by rw [hkl])
  have c9 : cut b (32 + x.key.size) x.size = x.val.data.toList := cut_mid (A := hd24 x ++ (le 4 (crc (hd24 x)) ++ (le 4 (crc (body x)) ++ x.key.data.toList))) (C := r) (by rw [hb]; simp [record, body]) (by simp only [List.length_append, hd24_length, le_length, hkl]; omega) (by rw [hvl]; rfl)
  have hit : itemOf b = x := by
    unfold itemOf
    rw [k0, he, c8, c9, c1, c2, c3]
    rw [num_le_of_lt (by have := x.flags.toNat_lt; omega), num_le_of_lt (by have := x.exp.toUInt64.toNat_lt; omega), num_le_of_lt (by have := x.ver.toNat_lt; omega)]
    rw [bytes_back, bytes_back]
    simp
  have hlen : x.size ≤ b.length := by rw [hb, List.length_append, record_length]; omega
  have hs32 : 32 ≤ x.size := by unfold Item.size; omega
  have hne : ¬ (b.length = 0 ∨ b.getD 0 0 = 0) := by
    rintro (h | h)
    · omega
    · unfold keyLen at k0
      rw [h] at k0
      simp at k0
      omega
  unfold take
  rw [if_neg hne, hit, he]
  have h1 : headOk b = true := by
    unfold headOk
    rw [b3, c4, c5, num_le_of_lt (by have := crc_lt (hd24 x); omega)]
    simp; omega
  have h2 : bodyOk b = true := by
    unfold bodyOk
    rw [he, c6, c7, num_le_of_lt (by have := crc_lt (body x); omega)]
    simp; omega
  rw [h1, h2, hg]
  rfl
theorem take_zeros (n : Nat) : take (List.replicate n 0) = .none := by
  unfold take
  rw [if_pos]
  right
  cases n with
  | zero => rfl
  | succ n => simp [List.replicate_succ]
theorem listOf_records (l : List Item) (n : Nat) (hg : goods l = true) : listOf (records l ++ List.replicate n 0) = some l := by
  induction l with
  | nil =>
    rw [listOf_step]
    simp only [records, List.flatMap_nil, List.nil_append]
    rw [take_zeros]
  | cons x r ih =>
    simp only [goods, List.all_cons, Bool.and_eq_true] at hg
    rw [listOf_step]
    have e : records (x :: r) ++ List.replicate n 0 = record x ++ (records r ++ List.replicate n 0) := by simp [records]
    rw [e, take_record x _ hg.1]
    simp only
    rw [← record_length, List.drop_left, ih hg.2]
    rfl
theorem listOf_layB (l : List Item) (room : Nat) (hr : room ≤ 65536) (hg : goods l = true) (hf : (records l).length ≤ room) : listOf (layB l room) = some l ∧ (layB l room).length = room := by
  have he : layE l room = 0 := by
    unfold layE
    rw [hg, if_pos rfl, if_neg (by omega), if_neg (by omega)]
  unfold layB
  rw [if_pos he]
  refine ⟨listOf_records l _ hg, ?_⟩
  simp; omega
end Go.Proofs.YtplpbbdakihnfaaGreat
end

section
namespace Go.Proofs.YtplpbbdakihnfaaGreat
open Go.RowKit
def ckN (len : Nat) : Nat := (len + 375) / 376
def ck (b : List UInt8) (j : Nat) : List UInt8 := (b.drop (j * 376)).take 376
def pgHead (n j : Nat) : List UInt8 := [73, 77] ++ le 2 n ++ le 4 j
def pgOf (c : List UInt8) (j : Nat) : List UInt8 := pgHead c.length j ++ c
theorem ck_len (b : List UInt8) (j : Nat) : (ck b j).length = min 376 (b.length - j * 376) := by simp [ck]
theorem pgHead_len (n j : Nat) : (pgHead n j).length = 8 := by simp [pgHead, le_length]
theorem pgOf_len (c : List UInt8) (j : Nat) : (pgOf c j).length = 8 + c.length := by simp [pgOf, pgHead_len]
def Dev.may (D : Dev) (first pages : Int) : Bool := decide (0 ≤ first) && decide (0 ≤ pages) && decide (first ≤ D.n) && decide (pages ≤ D.n - first)
def Dev.putL (D : Dev) (first : Int) (b : List UInt8) (l : List Nat) : Dev := l.zipIdx.foldl (fun D p => D.write (first + p.2) (pgOf (ck b p.1) p.2)) D
theorem Dev.putL_snoc (D : Dev) (first : Int) (b : List UInt8) (l : List Nat) (x : Nat) : D.putL first b (l ++ [x]) = (D.putL first b l).write (first + l.length) (pgOf (ck b x) l.length) := by
  unfold Dev.putL
  rw [List.zipIdx_append, List.foldl_append]
  simp
def Dev.putLE (D : Dev) (first : Int) (b : List UInt8) (l : List Nat) (x : Nat) : Int := (D.putL first b l).writeE (first + l.length) (pgOf (ck b x) l.length).length
def Dev.puts (D : Dev) (first : Int) (b : List UInt8) (k : Nat) : Dev := D.putL first b (List.range k)
def Dev.putsE (D : Dev) (first : Int) (b : List UInt8) (k : Nat) : Int := D.putLE first b (List.range k) k
theorem Dev.puts_succ (D : Dev) (first : Int) (b : List UInt8) (k : Nat) : D.puts first b (k + 1) = (D.puts first b k).write (first + k) (pgOf (ck b k) k) := by
  unfold Dev.puts
  rw [List.range_succ, Dev.putL_snoc]
  simp
theorem Dev.putsE_eq (D : Dev) (first : Int) (b : List UInt8) (k : Nat) : D.putsE first b k = (D.puts first b k).writeE (first + k) (pgOf (ck b k) k).length := by
  unfold Dev.putsE Dev.putLE Dev.puts
  simp
def fitI (room : Int) : Nat → List Item → Nat
  | _, [] => 0
  | acc, x :: r => if ((acc + x.size : Nat) : Int) ≤ room then fitI room (acc + x.size) r + 1 else 0
def isum (l : List Item) : Nat := (l.map (·.size)).sum
theorem isum_records (l : List Item) : (records l).length = isum l := by
  induction l with
  | nil => rfl
  | cons x r ih => simp only [records, List.flatMap_cons, List.length_append, record_length, isum, List.map_cons, List.sum_cons] at ih ⊢; omega
theorem fitI_room (room : Int) : ∀ (l : List Item) (acc : Nat), 0 < fitI room acc l → ((acc + isum (l.take (fitI room acc l)) : Nat) : Int) ≤ room := by
  intro l
  induction l with
  | nil => intro acc h; simp [fitI] at h
  | cons x r ih =>
    intro acc h
    rw [fitI] at h ⊢
    by_cases h1 : ((acc + x.size : Nat) : Int) ≤ room
    · rw [if_pos h1] at h ⊢
      rw [List.take_succ_cons]
      simp only [isum, List.map_cons, List.sum_cons]
      by_cases h2 : fitI room (acc + x.size) r = 0
      · rw [h2]; simpa using h1
      · have := ih (acc + x.size) (by omega)
        simp only [isum] at this
        rw [← Nat.add_assoc]
        exact this
    · rw [if_neg h1] at h; exact absurd h (by omega)
inductive DumpR (D : Dev) (first pages : Int) (l : List Item) : Nat → Nat → Int → Dev → Prop
  | arg : (D.may first pages && goods l) = false → DumpR D first pages l 0 0 1 D
  | cut (k : Nat) : (D.may first pages && goods l) = true → k < ckN (records (l.take (fitI (376 * pages) 0 l))).length →
      (∀ j, j < k → D.putsE first (records (l.take (fitI (376 * pages) 0 l))) j = 0) → D.putsE first (records (l.take (fitI (376 * pages) 0 l))) k ≠ 0 →
      DumpR D first pages l 0 0 (D.putsE first (records (l.take (fitI (376 * pages) 0 l))) k) (D.puts first (records (l.take (fitI (376 * pages) 0 l))) (k + 1))
  | noflush : (D.may first pages && goods l) = true → (∀ j, j < ckN (records (l.take (fitI (376 * pages) 0 l))).length → D.putsE first (records (l.take (fitI (376 * pages) 0 l))) j = 0) →
      (D.puts first (records (l.take (fitI (376 * pages) 0 l))) (ckN (records (l.take (fitI (376 * pages) 0 l))).length)).changeE ≠ 0 →
      DumpR D first pages l 0 0 (D.puts first (records (l.take (fitI (376 * pages) 0 l))) (ckN (records (l.take (fitI (376 * pages) 0 l))).length)).changeE (D.puts first (records (l.take (fitI (376 * pages) 0 l))) (ckN (records (l.take (fitI (376 * pages) 0 l))).length)).flush
  | ok : (D.may first pages && goods l) = true → (∀ j, j < ckN (records (l.take (fitI (376 * pages) 0 l))).length → D.putsE first (records (l.take (fitI (376 * pages) 0 l))) j = 0) →
      (D.puts first (records (l.take (fitI (376 * pages) 0 l))) (ckN (records (l.take (fitI (376 * pages) 0 l))).length)).changeE = 0 →
      DumpR D first pages l (ckN (records (l.take (fitI (376 * pages) 0 l))).length) (fitI (376 * pages) 0 l) 0 (D.puts first (records (l.take (fitI (376 * pages) 0 l))) (ckN (records (l.take (fitI (376 * pages) 0 l))).length)).flush
end Go.Proofs.YtplpbbdakihnfaaGreat
end

section
namespace Go.Proofs.YtplpbbdakihnfaaGreat
open Go.RowKit
structure Pl where
  op : Bool
  rg : Nat
  ix : Nat
  deriving DecidableEq
structure Sealed where
  num : Nat
  l : List Item
def Sealed.no : Sealed := ⟨0, []⟩
abbrev Keys := List (ByteArray × Pl)
structure Lg where
  losses : Int
  first : Nat
  regs : List Sealed
  opn : List Item
  number : Nat
  keys : Keys
def rgHead (k n m : Nat) : List UInt8 := [82, 71, UInt8.ofNat k, 0] ++ (le 4 m ++ le 8 n)
def rgPart (b : List UInt8) (k : Nat) : List UInt8 := (b.drop (k * 368)).take 368
def rgPg (b : List UInt8) (n k : Nat) : List UInt8 := rgHead k n (rgPart b k).length ++ rgPart b k
def rgForm (p : List UInt8) (k : Nat) : Bool := decide (p.take 2 = [82, 71]) && (decide ((p.getD 2 0).toNat = k) && ((p.getD 3 0 == 0) && decide (num (cut p 4 8) ≤ 368)))
def rgN (p : List UInt8) (k : Nat) : Nat := if rgForm p k then num (cut p 8 16) else 0
def rgB (p : List UInt8) (k : Nat) : List UInt8 := if rgForm p k then cut p 16 (16 + num (cut p 4 8)) else []
def Pg.rn (p : Pg) (k : Nat) : Nat := match p with
  | .full b => rgN b k
  | _ => 0
def Pg.rb (p : Pg) (k : Nat) : List UInt8 := match p with
  | .full b => rgB b k
  | _ => []
def Pg.rs (p : Pg) : Nat := match p with
  | .full b => rgN b (b.getD 2 0).toNat
  | _ => 0
def ldNums (P : Nat → Pg) (k : Nat) : List Nat := (List.range k).map fun j => (P j).rn j
def ldB (P : Nat → Pg) (k : Nat) : List UInt8 := (List.range k).flatMap fun j => (P j).rb j
def ldTop (P : Nat → Pg) (m : Nat) (k : Nat) : Nat := (List.range k).foldl (fun m j => max m (P j).rs) m
def listMin (l : List Nat) : Nat := l.tail.foldl min (l.headD 0)
def listMax (l : List Nat) : Nat := l.tail.foldl max (l.headD 0)
def ldS (P : Nat → Pg) : Sealed := match listOf (ldB P 4) with
  | some l => if listMin (ldNums P 4) = listMax (ldNums P 4) ∧ (P 0).rn 0 ≠ 0 then ⟨(P 0).rn 0, l⟩ else .no
  | none => .no
def Dev.rpg (D : Dev) (first i : Nat) : Nat → Pg := fun k => D.page (first + 4 * i + k)
def opRegs (D : Dev) (first n : Nat) : List Sealed := (List.range n).map fun i => ldS (D.rpg first i)
def opTop (D : Dev) (first n : Nat) : Nat := (List.range n).foldl (fun m i => ldTop (D.rpg first i) m 4) 0
def insR (f : Nat → Nat) (x : Nat) : List Nat → List Nat
  | [] => [x]
  | y :: r => if f x < f y then y :: insR f x r else x :: y :: r
def sortR (f : Nat → Nat) (l : List Nat) : List Nat := (l.foldl (fun r x => insR f x r) []).reverse
def rnum (regs : List Sealed) (i : Nat) : Nat := (regs.getD i .no).num
def rl (regs : List Sealed) (i : Nat) : List Item := (regs.getD i .no).l
def counts (regs : List Sealed) : List Nat := (List.range regs.length).filter fun i => decide (0 < rnum regs i)
def byNum (regs : List Sealed) : List Nat := sortR (rnum regs) (counts regs)
def layK (i : Nat) (ks : Keys) (l : List Item) : Keys := l.zipIdx.foldl (fun ks p => aset ks p.1.key ⟨false, i, p.2⟩) ks
def moveK (i : Nat) (ks : Keys) (l : List Item) : Keys := l.zipIdx.foldl (fun ks p => if aget ks p.1.key = some ⟨true, 0, p.2⟩ then aset ks p.1.key ⟨false, i, p.2⟩ else ks) ks
def giveK (i : Nat) (ks : Keys) (l : List Item) : List Item × Keys := l.zipIdx.foldl (fun s p => if aget s.2 p.1.key = some ⟨false, i, p.2⟩ then (s.1 ++ [p.1], adel s.2 p.1.key) else s) ([], ks)
def pick (ks : Keys) (pl : Nat → Pl) (l : List Item) : List Item := (l.zipIdx.filter fun p => decide (aget ks p.1.key = some (pl p.2))).map (·.1)
def Lg.opened (D : Dev) (first n : Nat) : Lg :=
  let regs := opRegs D first n
  { losses := D.losses, first, regs, opn := [], number := opTop D first n, keys := (byNum regs).foldl (fun ks i => layK i ks (rl regs i)) [] }
namespace Lg
def has (G : Lg) (key : ByteArray) : Bool := (aget G.keys key).isSome
def item (G : Lg) (p : Pl) : Item := if p.op then G.opn.getD p.ix Item.zero else (rl G.regs p.rg).getD p.ix Item.zero
def get (G : Lg) (key : ByteArray) : Item := match aget G.keys key with
  | some p => G.item p
  | none => Item.zero
def getE (G : Lg) (key : ByteArray) : Int := if G.has key then 0 else 5
def drop (G : Lg) (key : ByteArray) : Lg := { G with keys := adel G.keys key }
def items (G : Lg) : List Item := (byNum G.regs).flatMap (fun i => pick G.keys (fun at_ => ⟨false, i, at_⟩) (rl G.regs i)) ++ pick G.keys (fun at_ => ⟨true, 0, at_⟩) G.opn
def add (G : Lg) (x : Item) : Lg := { G with keys := aset G.keys x.key ⟨true, 0, G.opn.length⟩, opn := G.opn ++ [x] }
end Lg
def wrGo (base : Int) (n : Nat) (b : List UInt8) : Nat → Nat → Dev → Dev × Int
  | _, 0, D => (D.flush, D.changeE)
  | k, f + 1, D => if D.writeE (base + k) (rgPg b n k).length = 0 then wrGo base n b (k + 1) f (D.write (base + k) (rgPg b n k)) else (D.write (base + k) (rgPg b n k), D.writeE (base + k) (rgPg b n k).length)
def wr (D : Dev) (base : Int) (n : Nat) (b : List UInt8) : Dev × Int := wrGo base n b 0 4 D
structure LgR where
  G : Lg
  D : Dev
  lost : List Item
  e : Int
namespace Lg
def next (G : Lg) : Nat := (G.number + 1) % G.regs.length
def given (G : Lg) : List Item × Keys := giveK G.next G.keys (rl G.regs G.next)
def gave (G : Lg) : Lg := { G with regs := G.regs.set G.next .no, keys := G.given.2 }
def wrote (G : Lg) (D : Dev) : Dev × Int := wr D ((G.first + 4 * G.next : Nat) : Int) (G.number + 1) (records G.opn)
def shut (G : Lg) : Lg := { G with number := G.number + 1, regs := (G.regs.set G.next .no).set G.next ⟨G.number + 1, G.opn⟩, keys := moveK G.next G.given.2 G.opn, opn := [] }
def sl (G : Lg) (D : Dev) : LgR :=
  if G.opn = [] then ⟨G, D, [], 0⟩
  else if G.losses ≠ D.losses then ⟨G, D, [], 4⟩
  else if G.number = 18446744073709551615 then ⟨G, D, [], 9⟩
  else if (G.wrote D).2 = 0 then ⟨G.shut, (G.wrote D).1, G.given.1, 0⟩
  else ⟨G.gave, (G.wrote D).1, G.given.1, (G.wrote D).2⟩
def fits (x : Item) : Bool := x.good && decide (x.size ≤ 1472)
def put (G : Lg) (D : Dev) (x : Item) : LgR :=
  if fits x then
    (if isum G.opn + x.size ≤ 1472 then ⟨G.add x, D, [], 0⟩
    else if (G.sl D).e = 0 then ⟨(G.sl D).G.add x, (G.sl D).D, (G.sl D).lost, 0⟩
    else G.sl D)
  else ⟨G, D, [], 1⟩
end Lg
def Lg.plOk (G : Lg) (key : ByteArray) (p : Pl) : Prop :=
  if p.op then p.rg = 0 ∧ ∃ x, G.opn[p.ix]? = some x ∧ x.key = key else ∃ S x, G.regs[p.rg]? = some S ∧ S.l[p.ix]? = some x ∧ x.key = key
structure Lg.Ok (G : Lg) : Prop where
  pos : 0 < G.regs.length
  most : G.regs.length ≤ 64
  fit : G.first + 4 * G.regs.length ≤ 4096
  num : G.number < 18446744073709551616
  small : ∀ S ∈ G.regs, S.l.length ≤ 1000 ∧ S.num < 18446744073709551616
  good : goods G.opn = true
  sum : isum G.opn ≤ 1472
  keys : ∀ key p, aget G.keys key = some p → G.plOk key p
theorem isum_len (l : List Item) (h : goods l = true) : l.length * 33 ≤ isum l := by
  induction l with
  | nil => simp [isum]
  | cons x r ih =>
    simp only [goods, List.all_cons, Bool.and_eq_true] at h
    have := ih h.2
    have hx := h.1
    simp only [Item.good, Bool.and_eq_true, decide_eq_true_eq] at hx
    simp only [isum, List.map_cons, List.sum_cons, List.length_cons, Item.size] at this ⊢
    omega
theorem Lg.Ok.len {G : Lg} (h : G.Ok) : G.opn.length ≤ 44 := by
  have := isum_len _ h.good
  have := h.sum
  omega
theorem lst_len : ∀ (k : Nat) (b : List UInt8) (l : List Item), lst k b = some l → l.length * 33 ≤ b.length := by
  intro k
  induction k with
  | zero => intro b l h; cases h
  | succ k ih =>
    intro b l h
    rw [lst] at h
    cases ht : take b with
    | none => rw [ht] at h; simp only [Option.some.injEq] at h; subst h; simp
    | bad => rw [ht] at h; cases h
    | ok x n =>
      rw [ht] at h
      have hl := take_ok_len ht
      simp only [Option.map_eq_some_iff] at h
      obtain ⟨r, hr, rfl⟩ := h
      have := ih _ _ hr
      rw [List.length_drop] at this
      simp only [List.length_cons]
      omega
theorem listOf_len {b : List UInt8} {l : List Item} (h : listOf b = some l) : l.length * 33 ≤ b.length := lst_len _ _ _ h
section
variable {V W : Type} (f : V → W)
def amap (l : List (ByteArray × V)) : List (ByteArray × W) := l.map fun p => (p.1, f p.2)
theorem aget_amap (l : List (ByteArray × V)) (k : ByteArray) : aget (amap f l) k = (aget l k).map f := by
  induction l with
  | nil => rfl
  | cons p r ih =>
    simp only [amap, List.map_cons, aget] at ih ⊢
    split
    · rfl
    · exact ih
theorem aset_amap (l : List (ByteArray × V)) (k : ByteArray) (v : V) : aset (amap f l) k (f v) = amap f (aset l k v) := by
  induction l with
  | nil => rfl
  | cons p r ih =>
    simp only [amap, List.map_cons, aset] at ih ⊢
    split
    · rfl
    · rw [List.map_cons, ih]
theorem adel_amap (l : List (ByteArray × V)) (k : ByteArray) : adel (amap f l) k = amap f (adel l k) := by
  induction l with
  | nil => rfl
  | cons p r ih =>
    simp only [amap, List.map_cons, adel] at ih ⊢
    split
    · rfl
    · rw [List.map_cons, ih]
theorem akeys_amap (l : List (ByteArray × V)) : akeys (amap f l) = akeys l := by
  simp [akeys, amap, Function.comp_def]
end
end Go.Proofs.YtplpbbdakihnfaaGreat
end

section
namespace Go.Proofs.YtplpbbdakihnfaaGreat
open Go.RowKit
open Go.ChangeMaps (setBlock)
abbrev tLog : TypeId := 131
abbrev tSeal : TypeId := 133
abbrev tSeals : TypeId := 129
abbrev tPlace : TypeId := 137
abbrev tKeys : TypeId := 128
abbrev skey : ByteArray → Value := fun s => .string s
def plv (p : Pl) : Value := .agg #[.bool p.op, .int .i64 p.rg, .int .i64 p.ix]
def sec (p : Nat × Value) : List Value := [.int .u64 p.1, p.2]
def secs (l : List (Nat × Value)) : List Value := l.flatMap sec
theorem secs_get (l : List (Nat × Value)) (i : Nat) (p : Nat × Value) (h : l[i]? = some p) : (secs l)[i * 2]? = some (.int .u64 p.1) ∧ (secs l)[i * 2 + 1]? = some p.2 := by
  induction l generalizing i with
  | nil => cases h
  | cons y r ih =>
    have e : secs (y :: r) = sec y ++ secs r := by simp [secs]
    rw [e]
    cases i with
    | zero =>
      simp only [List.getElem?_cons_zero, Option.some.injEq] at h
      subst h
      simp [sec]
    | succ i =>
      simp only [List.getElem?_cons_succ] at h
      have e1 : (i + 1) * 2 = (sec y).length + i * 2 := by simp [sec]; omega
      have e2 : (i + 1) * 2 + 1 = (sec y).length + (i * 2 + 1) := by simp [sec]; omega
      rw [e2, e1, List.getElem?_append_right (by omega), List.getElem?_append_right (by omega), Nat.add_sub_cancel_left, Nat.add_sub_cancel_left]
      exact ih i h
theorem secs_append (a b : List (Nat × Value)) : secs (a ++ b) = secs a ++ secs b := by simp [secs]
theorem secs_set (l : List (Nat × Value)) (i : Nat) (p : Nat × Value) (hi : i < l.length) : secs (l.set i p) = ((secs l).set (i * 2) (.int .u64 p.1)).set (i * 2 + 1) p.2 := by
  induction l generalizing i with
  | nil => simp at hi
  | cons y r ih =>
    have e : ∀ (y : Nat × Value) r, secs (y :: r) = sec y ++ secs r := by intro y r; simp [secs]
    cases i with
    | zero => simp [secs, sec]
    | succ i =>
      simp only [List.length_cons] at hi
      rw [List.set_cons_succ, e, e, ih i (by omega)]
      have e1 : (i + 1) * 2 = (sec y).length + i * 2 := by simp [sec]; omega
      have e2 : (i + 1) * 2 + 1 = (sec y).length + (i * 2 + 1) := by simp [sec]; omega
      rw [e2, e1, List.set_append_right _ _ (by omega), Nat.add_sub_cancel_left, List.set_append_right _ _ (by omega), Nat.add_sub_cancel_left]
structure LgH where
  L : Nat
  M : Nat
  R : Value
  O : Value
  own : Nat → Prop
def LgH.spot (t : LgH) : Nat → Prop := fun k => k = t.L ∨ k = t.M ∨ t.R.ownBlock = some k ∨ t.O.ownBlock = some k
def SlAt (w : World) (t : LgH) (v : Value) (l : List Item) : Prop :=
  ∃ A c, v = .slice A l.length c ∧ l.length ≤ c ∧ Rd w tItem A (l.length * 5) (its l) ∧ ∀ g off, 0 < l.length → A = some ⟨g, off, none⟩ → t.own g ∧ t.O.ownBlock ≠ some g
theorem SlAt.nil (w : World) (t : LgH) : SlAt w t (.slice none 0 0) [] := ⟨none, 0, rfl, Nat.le_refl _, Rd.nil _ _ _, fun _ _ h => absurd h (by simp)⟩
structure LgAt (w : World) (h : DevH) (t : LgH) (G : Lg) : Prop where
  box : Blk w t.L tLog #[.pointer (some ⟨h.d, 0, none⟩), .int .i64 G.losses, .int .i64 G.first, t.R, t.O, .int .i64 (isum G.opn), .int .u64 G.number, .map (some t.M)]
  regs : ∃ ses : List (Nat × Value), ses.length = G.regs.length ∧ w.ownsRow 0 tSeal 2 t.R G.regs.length (secs ses) ∧ ∀ (i : Nat) (S : Sealed), G.regs[i]? = some S → ∃ v, ses[i]? = some (S.num, v) ∧ SlAt w t v S.l
  opn : w.ownsRow 0 tItem 5 t.O G.opn.length (its G.opn)
  map : MapIs skey w t.M (amap plv G.keys)
  ownL : t.own t.L
  ownM : t.own t.M
  ownR : ∀ k, t.R.ownBlock = some k → t.own k
  ownO : ∀ k, t.O.ownBlock = some k → t.own k
  lt : ∀ k, t.own k → k < w.heap.size
  far : t.M ≠ h.M
  ok : G.Ok
theorem own_ne {w : World} {v : Value} {base e size n base' e' size' n' : Nat} {xs xs' : List Value} {v' : Value} (h : w.ownsRow base e size v n xs) (h' : w.ownsRow base' e' size' v' n' xs') (hne : e ≠ e') (k : Nat) (h1 : v.ownBlock = some k) : v'.ownBlock ≠ some k := by
  rcases h.2 with ⟨rfl, _⟩ | ⟨g, cap, cur, rfl, _, hg, _⟩
  · simp [Value.ownBlock] at h1
  · have : g = k := by simpa [Value.ownBlock] using h1
    subst this
    exact own_other h' hg hne
theorem Rd.notS {S : Nat → Prop} {w w' : World} {t : TypeId} {A : Option Addr} {k : Nat} {xs : List Value} (h : Rd w t A k xs) (hc : Chg S w w') (hn : ∀ g off, 0 < k → A = some ⟨g, off, none⟩ → ¬ S g) : Rd w' t A k xs :=
  ⟨h.1, fun hk => by
    obtain ⟨g, off, cur, fz, e, hg, hx⟩ := h.2 hk
    exact ⟨g, off, cur, fz, e, hc.at_ hg (hn g off hk e), hx⟩⟩
section
variable {S : Nat → Prop} {w w' : World} {h : DevH} {t : LgH} {G : Lg}
theorem SlAt.chg {v : Value} {l : List Item} (hs : SlAt w t v l) (hc : Chg S w w') (hn : ∀ k, t.own k → t.O.ownBlock ≠ some k → ¬ S k) : SlAt w' t v l := by
  obtain ⟨A, c, e, h1, h2, h3⟩ := hs
  exact ⟨A, c, e, h1, h2.notS hc (fun g off h0 he => by have := h3 g off (by omega) he; exact hn g this.1 this.2), h3⟩
theorem LgAt.chg (hl : LgAt w h t G) (hc : Chg S w w') (hn : ∀ k, t.own k → ¬ S k) : LgAt w' h t G :=
  { hl with
    box := hl.box.chg hc (hn _ hl.ownL)
    regs := by
      obtain ⟨ses, h1, h2, h3⟩ := hl.regs
      refine ⟨ses, h1, own_chg h2 hc (fun k hk => hn k (hl.ownR k hk)), fun i S hS => ?_⟩
      obtain ⟨v, e, hv⟩ := h3 i S hS
      exact ⟨v, e, hv.chg hc (fun k hk _ => hn k hk)⟩
    opn := own_chg hl.opn hc (fun k hk => hn k (hl.ownO k hk))
    map := hl.map.chg hc (hn _ hl.ownM)
    lt := fun k hk => Nat.lt_of_lt_of_le (hl.lt k hk) hc.size }
theorem LgAt.chgNo (hl : LgAt w h t G) (hc : Chg No w w') : LgAt w' h t G := hl.chg hc (fun _ _ h => h)
theorem LgAt.not_foot {N : Nat} {D : Dev} (hl : LgAt w h t G) (hd : DevN N w h D) (k : Nat) (hk : t.spot k) : ¬ h.foot k := by
  rcases hk with rfl | rfl | hk | hk
  · exact hd.not_foot hl.box (by decide) (by decide)
  · rintro (hk | hk | hk)
    · obtain ⟨a, b, c, e, hb⟩ := hd.box
      exact hl.map.ne_blk hb hk
    · obtain ⟨ps, hb, _⟩ := hd.row
      exact hl.map.ne_blk hb hk
    · exact hl.far hk
  · obtain ⟨ses, _, h2, _⟩ := hl.regs
    rcases h2.2 with ⟨e, _⟩ | ⟨g, cap, cur, e, _, hg, _⟩
    · rw [e] at hk; simp [Value.ownBlock] at hk
    · rw [e] at hk
      have : g = k := by simpa [Value.ownBlock] using hk
      subst this
      exact hd.not_foot hg (by decide) (by decide)
  · rcases hl.opn.2 with ⟨e, _⟩ | ⟨g, cap, cur, e, _, hg, _⟩
    · rw [e] at hk; simp [Value.ownBlock] at hk
    · rw [e] at hk
      have : g = k := by simpa [Value.ownBlock] using hk
      subst this
      exact hd.not_foot hg (by decide) (by decide)
theorem LgAt.spot_ty (hl : LgAt w h t G) (k : Nat) (hk : t.spot k) (cs : Array Value) (T : TypeId) (hb : Blk w k T cs) : T = tLog ∨ T = tSeal ∨ T = tItem := by
  rcases hk with rfl | rfl | hk | hk
  · exact .inl (by have h1 := hl.box; unfold Blk at h1 hb; rw [h1] at hb; injection hb with hb; injection hb with _ hb; exact hb.symm)
  · exact absurd rfl (hl.map.ne_blk hb)
  · obtain ⟨ses, _, h2, _⟩ := hl.regs
    rcases h2.2 with ⟨e, _⟩ | ⟨g, cap, cur, e, _, hg, _⟩
    · rw [e] at hk; simp [Value.ownBlock] at hk
    · rw [e] at hk
      have : g = k := by simpa [Value.ownBlock] using hk
      subst this
      unfold Blk at hb; rw [hg] at hb; injection hb with hb; injection hb with _ hb
      exact .inr (.inl hb.symm)
  · rcases hl.opn.2 with ⟨e, _⟩ | ⟨g, cap, cur, e, _, hg, _⟩
    · rw [e] at hk; simp [Value.ownBlock] at hk
    · rw [e] at hk
      have : g = k := by simpa [Value.ownBlock] using hk
      subst this
      unfold Blk at hb; rw [hg] at hb; injection hb with hb; injection hb with _ hb
      exact .inr (.inr hb.symm)
theorem LgAt.dev {N : Nat} {D : Dev} (hl : LgAt w h t G) (hd : DevN N w h D) (hc : Chg S w w') (hS : ∀ k, k < w.heap.size → S k → t.spot k) : DevN N w' h D := by
  have hlt : ∀ k, h.foot k → k < w.heap.size := by
    intro k hk
    rcases hk with rfl | rfl | rfl
    · obtain ⟨a, b, c, e, hb⟩ := hd.box; exact hb.lt
    · obtain ⟨ps, hb, _⟩ := hd.row; exact hb.lt
    · obtain ⟨es, hm, _⟩ := hd.map; exact hm.lt
  have hf : ∀ k, h.foot k → ¬ S k := fun k hk hs => hl.not_foot hd k (hS k (hlt k hk) hs) hk
  refine hd.chg hc (hf _ (.inl rfl)) (hf _ (.inr (.inl rfl))) (hf _ (.inr (.inr rfl))) ?_
  intro g cs T hg hT hb hs
  rcases hl.spot_ty g (hS g hb.lt hs) cs T hb with rfl | rfl | rfl <;> rcases hT with hT | hT <;> exact absurd hT (by decide)
theorem LgAt.foot {N : Nat} {D : Dev} (hl : LgAt w h t G) (hd : DevN N w h D) (hc : Chg h.foot w w') : LgAt w' h t G := by
  have hs : ∀ k, t.spot k → ¬ h.foot k := fun k hk => hl.not_foot hd k hk
  have hrow : ∀ v l, SlAt w t v l → SlAt w' t v l := by
    rintro v l ⟨A, c, e, h1, h2, h3⟩
    exact ⟨A, c, e, h1, h2.chg hc (fun g cur fz hg => hd.not_foot hg (by decide) (by decide)), h3⟩
  exact { hl with
    box := hl.box.chg hc (hs _ (.inl rfl))
    regs := by
      obtain ⟨ses, h1, h2, h3⟩ := hl.regs
      refine ⟨ses, h1, own_chg h2 hc (fun k hk => hs k (.inr (.inr (.inl hk)))), fun i S hS => ?_⟩
      obtain ⟨v, e, hv⟩ := h3 i S hS
      exact ⟨v, e, hrow _ _ hv⟩
    opn := own_chg hl.opn hc (fun k hk => hs k (.inr (.inr (.inr hk))))
    map := hl.map.chg hc (hs _ (.inr (.inl rfl)))
    lt := fun k hk => Nat.lt_of_lt_of_le (hl.lt k hk) hc.size }
theorem LgAt.nodup (hl : LgAt w h t G) : (akeys G.keys).Nodup := by
  have := hl.map.nodup
  rwa [akeys_amap] at this
end
end Go.Proofs.YtplpbbdakihnfaaGreat
end

section
namespace Go.Proofs.YtplpbbdakihnfaaGreat
open Go.RowKit
abbrev tU64 : TypeId := 28
abbrev tU64s : TypeId := 167
def u64s (l : List Nat) : List Value := l.map fun x : Nat => .int .u64 (x : Int)
theorem u64s_length (l : List Nat) : (u64s l).length = l.length := by simp [u64s]
theorem foldl_snoc {α β : Type} (f : β → α → β) (b : β) (l : List α) (k : Nat) (x : α) (h : l[k]? = some x) : (l.take (k + 1)).foldl f b = f ((l.take k).foldl f b) x := by
  rw [List.take_add_one, h, Option.toList, List.foldl_append]; rfl
theorem min_cast (a b : Nat) : ((min a b : Nat) : Int) = min (a : Int) (b : Int) := by omega
theorem max_cast (a b : Nat) : ((max a b : Nat) : Int) = max (a : Int) (b : Int) := by omega
theorem min_calls (A : Option Addr) (n c : Nat) (l : List Nat) (w : World) (hr : Rd w tU64 A n (u64s l)) (h0 : 0 < n) (hn : n ≤ 1000000) (hc : n ≤ c) (hb : ∀ x ∈ l, x < 18446744073709551616) :
    Calls Tryz.prog 99 #[.slice A n c] w fun e w' => e = .returned (.int .u64 (listMin l)) ∧ w = w' := by
  have hl : l.length = n := by rw [← u64s_length]; exact hr.1
  obtain ⟨g, off, rfl, hg, hx⟩ := hr.at_ h0
  obtain ⟨x0, r, rfl⟩ : ∃ x r, l = x :: r := by
    cases l with
    | nil => simp at hl; omega
    | cons x r => exact ⟨x, r, rfl⟩
  have c0 := hx 0 (.int .u64 (x0 : Int)) rfl
  rw [Nat.add_zero] at c0
  have HX : Hid (∀ (j x : Nat), r[j]? = some x → w.cell? ⟨g, off + (j + 1), none⟩ = some (.int .u64 (x : Int))) := fun j x hj => hx (j + 1) _ (by simp [u64s, hj])
  have HL : Hid (r.length + 1 = n) := by show _ = _; simpa using hl
  have h0i : (0 : Int) < (n : Int) := by omega
  have h1i : ¬ (n : Int) < 1 := by omega
  clear hr hx hl hg hb
  go_enter Tryz.func99, Tryz.ntmps99
  go_wp2
  go_loopg [3, 4] n (fun gk m i wr => ∃ k : Nat, gk = n - k ∧ k ≤ r.length ∧ w = wr ∧ i = .int .i64 ((k + 1 : Nat) : Int) ∧ m = .int .u64 (((r.take k).foldl min x0 : Nat) : Int))
  case atStart => exact ⟨0, by omega, by omega, rfl, rfl, rfl⟩
  case round =>
    obtain ⟨k, rfl, hk, rfl, rfl, rfl⟩ := hrel
    have hn1 := HL.out
    by_cases hlt : k < r.length
    · obtain ⟨x, hx⟩ : ∃ x, r[k]? = some x := ⟨_, List.getElem?_eq_getElem hlt⟩
      have cx := HX.out k x hx
      have HS : Hid ((r.take (k + 1)).foldl min x0 = min ((r.take k).foldl min x0) x) := foldl_snoc _ _ _ _ _ hx
      obtain ⟨m, hm⟩ : ∃ m, m = (r.take k).foldl min x0 := ⟨_, rfl⟩
      rw [← hm] at HS ⊢
      have hki : ((k + 1 : Nat) : Int) < (n : Int) := by omega
      clear hx hm
      go_wp2
      all_goals
        go_roundg (n - (k + 1))
        case measure => omega
        case rel => exact ⟨k + 1, rfl, by omega, rfl, by go_num, by rw [HS.out]; first | rfl | (rw [min_cast]; rfl) | (rw [min_cast]; congr 1; omega)⟩
    · obtain rfl : k = r.length := by omega
      have hki : ¬ ((r.length + 1 : Nat) : Int) < (n : Int) := by omega
      clear hlt
      go_wp2
      go_ret
      exact ⟨by simp [listMin, List.take_length], rfl⟩
theorem max_calls (A : Option Addr) (n c : Nat) (l : List Nat) (w : World) (hr : Rd w tU64 A n (u64s l)) (h0 : 0 < n) (hn : n ≤ 1000000) (hc : n ≤ c) (hb : ∀ x ∈ l, x < 18446744073709551616) :
    Calls Tryz.prog 100 #[.slice A n c] w fun e w' => e = .returned (.int .u64 (listMax l)) ∧ w = w' := by
  have hl : l.length = n := by rw [← u64s_length]; exact hr.1
  obtain ⟨g, off, rfl, hg, hx⟩ := hr.at_ h0
  obtain ⟨x0, r, rfl⟩ : ∃ x r, l = x :: r := by
    cases l with
    | nil => simp at hl; omega
    | cons x r => exact ⟨x, r, rfl⟩
  have c0 := hx 0 (.int .u64 (x0 : Int)) rfl
  rw [Nat.add_zero] at c0
  have HX : Hid (∀ (j x : Nat), r[j]? = some x → w.cell? ⟨g, off + (j + 1), none⟩ = some (.int .u64 (x : Int))) := fun j x hj => hx (j + 1) _ (by simp [u64s, hj])
  have HL : Hid (r.length + 1 = n) := by show _ = _; simpa using hl
  have h0i : (0 : Int) < (n : Int) := by omega
  have h1i : ¬ (n : Int) < 1 := by omega
  clear hr hx hl hg hb
  go_enter Tryz.func100, Tryz.ntmps100
  go_wp2
  go_loopg [3, 4] n (fun gk m i wr => ∃ k : Nat, gk = n - k ∧ k ≤ r.length ∧ w = wr ∧ i = .int .i64 ((k + 1 : Nat) : Int) ∧ m = .int .u64 (((r.take k).foldl max x0 : Nat) : Int))
  case atStart => exact ⟨0, by omega, by omega, rfl, rfl, rfl⟩
  case round =>
    obtain ⟨k, rfl, hk, rfl, rfl, rfl⟩ := hrel
    have hn1 := HL.out
    by_cases hlt : k < r.length
    · obtain ⟨x, hx⟩ : ∃ x, r[k]? = some x := ⟨_, List.getElem?_eq_getElem hlt⟩
      have cx := HX.out k x hx
      have HS : Hid ((r.take (k + 1)).foldl max x0 = max ((r.take k).foldl max x0) x) := foldl_snoc _ _ _ _ _ hx
      obtain ⟨m, hm⟩ : ∃ m, m = (r.take k).foldl max x0 := ⟨_, rfl⟩
      rw [← hm] at HS ⊢
      have hki : ((k + 1 : Nat) : Int) < (n : Int) := by omega
      clear hx hm
      go_wp2
      all_goals
        go_roundg (n - (k + 1))
        case measure => omega
        case rel => exact ⟨k + 1, rfl, by omega, rfl, by go_num, by rw [HS.out]; first | rfl | (rw [max_cast]; rfl) | (rw [max_cast]; congr 1; omega)⟩
    · obtain rfl : k = r.length := by omega
      have hki : ¬ ((r.length + 1 : Nat) : Int) < (n : Int) := by omega
      clear hlt
      go_wp2
      go_ret
      exact ⟨by simp [listMax, List.take_length], rfl⟩
def cmpN (a b : Nat) : Int := if a < b then -1 else if b < a then 1 else 0
theorem isNaN_calls (a : Int) (w : World) : Calls Tryz.prog 120 #[.int .u64 a] w fun e w' => e = .returned (.bool false) ∧ w = w' := by
  go_enter Tryz.func120, Tryz.ntmps120
  go_wp2
  go_ret
  exact ⟨rfl, rfl⟩
theorem compare_calls (a b : Nat) (w : World) : Calls Tryz.prog 103 #[.int .u64 a, .int .u64 b] w fun e w' => e = .returned (.int .i64 (cmpN a b)) ∧ w = w' := by
  have HE : Hid (cmpN a b = if a < b then -1 else if b < a then 1 else 0) := rfl
  obtain ⟨c, hc⟩ : ∃ c, c = cmpN a b := ⟨_, rfl⟩
  rw [← hc] at HE ⊢
  clear hc
  by_cases h1 : a < b
  · have b1 : (a : Int) < (b : Int) := by omega
    have HC : Hid (c = -1) := by show _ = _; rw [HE.out, if_pos h1]
    clear HE
    go_enter Tryz.func103, Tryz.ntmps103
    go_wp2_with (first | (go_at_call 120; refine (isNaN_calls _ _).mono ?_; rintro e w' ⟨rfl, rfl⟩))
    go_ret
    exact ⟨by rw [HC.out]; rfl, rfl⟩
  · by_cases h2 : b < a
    · have b1 : ¬ (a : Int) < (b : Int) := by omega
      have b2 : (b : Int) < (a : Int) := by omega
      have HC : Hid (c = 1) := by show _ = _; rw [HE.out, if_neg h1, if_pos h2]
      clear HE
      go_enter Tryz.func103, Tryz.ntmps103
      go_wp2_with (first | (go_at_call 120; refine (isNaN_calls _ _).mono ?_; rintro e w' ⟨rfl, rfl⟩))
      go_ret
      exact ⟨by rw [HC.out]; rfl, rfl⟩
    · have b1 : ¬ (a : Int) < (b : Int) := by omega
      have b2 : ¬ (b : Int) < (a : Int) := by omega
      have HC : Hid (c = 0) := by show _ = _; rw [HE.out, if_neg h1, if_neg h2]
      clear HE
      go_enter Tryz.func103, Tryz.ntmps103
      go_wp2_with (first | (go_at_call 120; refine (isNaN_calls _ _).mono ?_; rintro e w' ⟨rfl, rfl⟩))
      go_ret
      exact ⟨by rw [HC.out]; rfl, rfl⟩
theorem byCmp_calls {w : World} {h : DevH} {t : LgH} {G : Lg} (hl : LgAt w h t G) (B : Nat) (hB : Blk w B 82 #[.pointer (some ⟨t.L, 0, none⟩)]) (a b : Nat) (ha : a < G.regs.length) (hb : b < G.regs.length) :
    Calls Tryz.prog 102 #[.int .i64 a, .int .i64 b, .pointer (some ⟨B, 0, none⟩)] w fun e w' => e = .returned (.int .i64 (cmpN (rnum G.regs a) (rnum G.regs b))) ∧ ∃ n, w' = w.drewN n := by
  obtain ⟨ses, hn, ho, hs⟩ := hl.regs
  obtain ⟨va, hva, qa⟩ := hs a _ (List.getElem?_eq_getElem ha)
  obtain ⟨vb, hvb, qb⟩ := hs b _ (List.getElem?_eq_getElem hb)
  obtain ⟨A, c, hR, hnc, hrd⟩ := own_slice ho
  have c3 := hl.box.cell 3
  simp at c3
  have cB := hB.cell 0
  simp at cB
  rw [hR] at c3
  obtain ⟨g, off, rfl, hg, hx⟩ := hrd.at_ (j := 0) (by omega)
  have ca := hx (a * 2) _ (secs_get ses a _ hva).1
  have cb := hx (b * 2) _ (secs_get ses b _ hvb).1
  have ea : rnum G.regs a = (G.regs[a]).num := by unfold rnum; rw [List.getD_eq_getElem?_getD, List.getElem?_eq_getElem ha]; rfl
  have eb : rnum G.regs b = (G.regs[b]).num := by unfold rnum; rw [List.getD_eq_getElem?_getD, List.getElem?_eq_getElem hb]; rfl
  rw [← ea] at ca
  rw [← eb] at cb
  have hai : (a : Int) < (G.regs.length : Int) := by omega
  have hbi : (b : Int) < (G.regs.length : Int) := by omega
  obtain ⟨na, hna⟩ : ∃ na, na = rnum G.regs a := ⟨_, rfl⟩
  obtain ⟨nb, hnb⟩ : ∃ nb, nb = rnum G.regs b := ⟨_, rfl⟩
  obtain ⟨m, hm⟩ : ∃ m, m = G.regs.length := ⟨_, rfl⟩
  rw [← hna] at ca ⊢
  rw [← hnb] at cb ⊢
  rw [← hm] at c3 hai hbi
  simp only at ca cb
  clear hl hB hn ho hs hva hvb hR hrd hg hx ea eb hna hnb hm qa qb ha hb
  go_enter Tryz.func102, Tryz.ntmps102
  go_wp2_with fail
  go_quiet ((go_at_call 103; exact quiet_left (compare_calls _ _ _)))
  go_wp2
  go_ret
  exact ⟨rfl, _, rfl⟩
end Go.Proofs.YtplpbbdakihnfaaGreat
end

section
namespace Go.Proofs.YtplpbbdakihnfaaGreat
open Go.RowKit
attribute [local go_sem ↓] Go.wp_at_zero Go.wp_at_succ
abbrev tInt1 : TypeId := 3
abbrev tInts1 : TypeId := 66
def ints (l : List Nat) : List Value := l.map fun x : Nat => .int .i64 (x : Int)
theorem ints_append (a b : List Nat) : ints (a ++ b) = ints a ++ ints b := by simp [ints]
theorem ints_get {l : List Nat} {i x : Nat} (h : l[i]? = some x) : (ints l)[i]? = some (.int .i64 (x : Int)) := by simp [ints, h]
theorem ints_set (l : List Nat) (i x : Nat) : ints (l.set i x) = (ints l).set i (.int .i64 (x : Int)) := by simp [ints, List.map_set]
def midRow (rest : List Nat) (x : Nat) (moved tail : List Nat) : List Nat := rest.reverse ++ x :: (moved.reverse ++ tail)
theorem mid_swap (rest : List Nat) (y x : Nat) (moved tail : List Nat) : ((midRow (y :: rest) x moved tail).set (rest.length + 1) y).set rest.length x = midRow rest x (moved ++ [y]) tail := by
  unfold midRow
  rw [List.reverse_cons, List.append_assoc]
  have e1 : rest.length + 1 = rest.reverse.length + 1 := by simp
  rw [e1, List.set_append_right _ _ (by omega), Nat.add_sub_cancel_left]
  rw [List.set_append_right _ _ (by simp)]
  simp
theorem cmpN_lt (a b : Nat) : cmpN a b < 0 ↔ a < b := by
  unfold cmpN
  split
  · simp; assumption
  · split <;> simp <;> omega
theorem row_get {w : World} {base e g cap n : Nat} {xs : List Value} (h : w.ownsRow base e 1 (.slice (some ⟨g, 0, none⟩) n cap) n xs) {j : Nat} {u : Value} (hu : xs[j]? = some u) : w.cell? ⟨g, j, none⟩ = some u := by
  obtain ⟨A, c, hA, _, hr⟩ := own_slice h
  injection hA with e1 e2 e3
  subst e1
  have := h.1
  obtain ⟨g', off, e4, _, hx⟩ := hr.at_ (j := j) (by have := (List.getElem?_eq_some_iff.1 hu).1; omega)
  simp only [Option.some.injEq, Addr.mk.injEq, and_true] at e4
  obtain ⟨rfl, rfl⟩ := e4
  simpa using hx j u hu
def insL (f : Nat → Nat) (l : List Nat) : List Nat := l.foldl (fun r x => insR f x r) []
theorem insL_snoc (f : Nat → Nat) (l : List Nat) (x : Nat) : insL f (l ++ [x]) = insR f x (insL f l) := by simp [insL, List.foldl_append]
theorem insR_length (f : Nat → Nat) (x : Nat) (l : List Nat) : (insR f x l).length = l.length + 1 := by
  induction l with
  | nil => rfl
  | cons y r ih => rw [insR]; split <;> simp [ih]
theorem insR_mem (f : Nat → Nat) (x z : Nat) (l : List Nat) : z ∈ insR f x l ↔ z = x ∨ z ∈ l := by
  induction l with
  | nil => simp [insR]
  | cons y r ih =>
    rw [insR]
    split
    · rw [List.mem_cons, ih, List.mem_cons]
      exact ⟨fun h => by rcases h with h | h | h <;> simp [h], fun h => by rcases h with h | h | h <;> simp [h]⟩
    · rw [List.mem_cons]
theorem insL_length (f : Nat → Nat) (l : List Nat) : (insL f l).length = l.length := by
  rw [← List.reverse_reverse l]
  generalize l.reverse = m
  induction m with
  | nil => rfl
  | cons x r ih => rw [List.reverse_cons, insL_snoc, insR_length, ih]; simp
theorem insL_mem (f : Nat → Nat) (z : Nat) (l : List Nat) : z ∈ insL f l ↔ z ∈ l := by
  rw [← List.reverse_reverse l]
  generalize l.reverse = m
  induction m with
  | nil => simp [insL]
  | cons x r ih => rw [List.reverse_cons, insL_snoc, insR_mem, ih, List.mem_append, List.mem_singleton]; exact ⟨fun h => h.symm, fun h => h.symm⟩
theorem insertion_small {w : World} (v F : Value) (n : Nat) (hn : n ≤ 1) :
    Calls Tryz.prog 128 #[v, .int .i64 0, .int .i64 n, F] w fun e w' => e = .returned (.tuple #[]) ∧ w = w' := by
  have h1 : ¬ (1 : Int) < (n : Int) := by omega
  clear hn
  go_enter Tryz.func128, Tryz.ntmps128
  go_wp2
  go_loopg [8] 0 (fun gk vi wr => vi = .int .i64 1 ∧ w = wr)
  case atStart => exact ⟨rfl, rfl⟩
  case round =>
    obtain ⟨rfl, rfl⟩ := hrel
    go_wp2
    go_end0
    exact ⟨rfl, rfl⟩
set_option maxHeartbeats 2000000 in
theorem insertion_calls {w : World} {h : DevH} {t : LgH} {G : Lg} (hl : LgAt w h t G) (B : Nat) (hB : Blk w B 82 #[.pointer (some ⟨t.L, 0, none⟩)]) (g cap base : Nat) (l : List Nat)
    (hown : w.ownsRow base tInt1 1 (.slice (some ⟨g, 0, none⟩) l.length cap) l.length (ints l)) (hgo : ¬ t.own g) (hlt : ∀ x ∈ l, x < G.regs.length) (hn : l.length ≤ 64) (h2 : 2 ≤ l.length) :
    Calls Tryz.prog 128 #[.slice (some ⟨g, 0, none⟩) l.length cap, .int .i64 0, .int .i64 l.length, .func (.func 102) #[] #[.pointer (some ⟨B, 0, none⟩)]] w
      fun e w' => e = .returned (.tuple #[]) ∧ w'.ownsRow base tInt1 1 (.slice (some ⟨g, 0, none⟩) l.length cap) l.length (ints (sortR (rnum G.regs) l)) ∧ Chg (fun k => k = g) w w' := by
  have hgB : B ≠ g := by
    rintro rfl
    exact own_other hown hB (by decide) (by simp [Value.ownBlock])
  have HC : ∀ W, Hid (Chg (fun k => k = g) w W → ∀ a b : Nat, a < G.regs.length → b < G.regs.length → Calls Tryz.prog 102 #[.int .i64 a, .int .i64 b, .pointer (some ⟨B, 0, none⟩)] W fun e w' => e = .returned (.int .i64 (cmpN (rnum G.regs a) (rnum G.regs b))) ∧ ∃ n, w' = W.drewN n) := fun W hc a b ha hb =>
    byCmp_calls (hl.chg hc (fun k hk e => hgo (by rw [← e]; exact hk))) B (hB.chg hc hgB) a b ha hb
  have HLT := Lib.hid hlt
  have HO := Lib.hid hown
  obtain ⟨f, hf⟩ : ∃ f, f = rnum G.regs := ⟨_, rfl⟩
  obtain ⟨nr, hnr⟩ : ∃ nr, nr = G.regs.length := ⟨_, rfl⟩
  simp only [← hf, ← hnr] at HC HLT ⊢
  obtain ⟨n, hnl⟩ : ∃ n, n = l.length := ⟨_, rfl⟩
  have HN : Hid (l.length = n) := hnl.symm
  rw [← hnl] at HO hn h2 ⊢
  clear hl hB hown hlt hgo hgB hf hnr hnl
  go_enter Tryz.func128, Tryz.ntmps128
  go_wp2
  go_loopg [8] n (fun gk vi wr => ∃ i : Nat, gk = n - i ∧ i + 1 ≤ n ∧ vi = .int .i64 ((i + 1 : Nat) : Int) ∧ Hid (wr.ownsRow base tInt1 1 (.slice (some ⟨g, 0, none⟩) n cap) n (ints ((insL f (l.take (i + 1))).reverse ++ l.drop (i + 1))) ∧ Chg (fun k => k = g) w wr))
  case atStart =>
    refine ⟨0, rfl, by omega, rfl, ?_, Chg.refl _ _⟩
    have e : (insL f (l.take (0 + 1))).reverse ++ l.drop (0 + 1) = l := by
      cases l with
      | nil => rfl
      | cons x r => simp [insL, insR]
    rw [e]; exact HO.out
  case round =>
    obtain ⟨i, rfl, hi, rfl, H⟩ := hrel
    by_cases hlast : i + 1 < n
    · obtain ⟨wo, rfl⟩ : ∃ wo : World, wo = wr := ⟨_, rfl⟩
      obtain ⟨x, hx⟩ : ∃ x, l[i + 1]? = some x := ⟨_, List.getElem?_eq_getElem (by rw [HN.out]; exact hlast)⟩
      have hxr : x < nr := HLT.out x (List.mem_of_getElem? hx)
      have hdrop : l.drop (i + 1) = x :: l.drop (i + 2) := by
        rw [List.drop_eq_getElem_cons (by rw [HN.out]; exact hlast)]
        congr 1
        exact (List.getElem?_eq_some_iff.1 hx).2
      have HR : Hid (wo.ownsRow base tInt1 1 (.slice (some ⟨g, 0, none⟩) n cap) n (ints (midRow (insL f (l.take (i + 1))) x [] (l.drop (i + 2)))) ∧ Chg (fun k => k = g) w wo) := by
        refine ⟨?_, H.out.2⟩
        have := H.out.1
        rw [hdrop] at this
        exact this
      have HE : Hid (insL f (l.take (i + 1 + 1)) = insR f x (insL f (l.take (i + 1)))) := by
        show _ = _
        rw [List.take_add_one (i := i + 1), hx, Option.toList, insL_snoc]
      have HL : Hid ((insL f (l.take (i + 1))).length = i + 1) := by
        show _ = _
        rw [insL_length, List.length_take, HN.out]; omega
      have HM : Hid (∀ y ∈ insL f (l.take (i + 1)), y < nr) := fun y hy => HLT.out y (List.mem_of_mem_take ((insL_mem f y _).1 hy))
      have hli : ((i + 1 : Nat) : Int) < (n : Int) := by omega
      clear H hx hdrop
      go_wp2
      go_loopg [9] (i + 1) (fun gj vj wz => ∃ rest moved : List Nat, gj = rest.length ∧ rest.length ≤ i + 1 ∧ vj = .int .i64 (rest.length : Int) ∧ Hid (wz.ownsRow base tInt1 1 (.slice (some ⟨g, 0, none⟩) n cap) n (ints (midRow rest x moved (l.drop (i + 2)))) ∧ Chg (fun k => k = g) w wz ∧ insR f x (insL f (l.take (i + 1))) = moved ++ insR f x rest ∧ ∀ y ∈ rest, y < nr))
      case atStart => exact ⟨insL f (l.take (i + 1)), [], HL.out.symm, by rw [HL.out]; exact Nat.le_refl _, by rw [HL.out], HR.out.1, HR.out.2, rfl, HM.out⟩
      case round =>
        obtain ⟨rest, moved, rfl, hrl, rfl, K⟩ := hrel
        cases rest with
        | nil =>
          have HEND : Hid (wr.ownsRow base tInt1 1 (.slice (some ⟨g, 0, none⟩) n cap) n (ints ((insL f (l.take (i + 1 + 1))).reverse ++ l.drop (i + 1 + 1))) ∧ Chg (fun k => k = g) w wr) := by
            refine ⟨?_, K.out.2.1⟩
            have h1 := K.out.1
            have h2 := K.out.2.2.1
            rw [HE.out, h2]
            simpa [midRow, insR] using h1
          have b0 : decide ((0 : Int) < 0) = false := rfl
          simp only [List.length_nil]
          go_wp2_with fail
          go_quiet (fail)
          go_wp2
          go_roundg (n - (i + 1))
          case measure => omega
          case rel => exact ⟨i + 1, rfl, by omega, by go_num, HEND.out.1, HEND.out.2.drewN _⟩
        | cons y r =>
          have hyr : y < nr := K.out.2.2.2 y List.mem_cons_self
          have hrr : r.length + 1 ≤ i + 1 := by simpa using hrl
          have HLM : Hid ((midRow (y :: r) x moved (l.drop (i + 2)))[r.length]? = some y ∧ (midRow (y :: r) x moved (l.drop (i + 2)))[r.length + 1]? = some x) := by
            unfold midRow
            rw [List.reverse_cons, List.append_assoc]
            constructor
            · rw [List.getElem?_append_right (by simp)]; simp
            · rw [List.getElem?_append_right (by simp)]; simp
          have cy := row_get K.out.1 (ints_get HLM.out.1)
          have cx := row_get K.out.1 (ints_get HLM.out.2)
          have HC1 := fun W => Lib.hid (fun hc : Chg (fun k => k = g) w W => (HC W).out hc x y hxr hyr)
          have hcl := cmpN_lt (f x) (f y)
          obtain ⟨cc, hcc⟩ : ∃ cc, cc = cmpN (f x) (f y) := ⟨_, rfl⟩
          rw [← hcc] at HC1 hcl
          obtain ⟨m, hm⟩ : ∃ m, r.length = m := ⟨_, rfl⟩
          rw [List.length_cons, hm]
          rw [hm] at cy cx hrr
          have hmi : (m : Int) < (n : Int) := by omega
          have hmi1 : ((m + 1 : Nat) : Int) < (n : Int) := by omega
          have hsub : IntKind.i64.wrap (((m + 1 : Nat) : Int) - 1) = (m : Int) := by rw [IntWalk.i64_in _ (by omega)]; omega
          have b0 : decide ((0 : Int) < ((m + 1 : Nat) : Int)) = true := by simp only [decide_eq_true_eq]; omega
          have HMM := Lib.hid hm
          have HCL := Lib.hid hcl
          clear HLM hcc hm hcl
          by_cases hlt : f x < f y
          · have hc0 : decide (cc < 0) = true := by simpa using HCL.out.2 hlt
            go_wp2_with fail
            go_quiet ((go_at_call 102; exact (Calls.quiet_of ((HC1 _).out (K.out.2.1.drewN _)))))
            have fm := K.out.1.frozenAt m
            have fm1 := K.out.1.frozenAt (m + 1)
            go_wp2_with fail
            go_region
            all_goals
              go_wp2
              go_roundg m
              case measure => have := HMM.out; simp only [List.length_cons]; omega
              case rel =>
                refine ⟨r, moved ++ [y], HMM.out.symm, by rw [HMM.out]; omega, by rw [HMM.out], ?_, ?_, ?_, ?_⟩
                · have e := mid_swap r y x moved (l.drop (i + 2))
                  rw [HMM.out] at e
                  rw [← e, ints_set, ints_set]
                  exact (((own_chg K.out.1 ((Chg.refl No wr).drewN _) (fun _ _ h => h)).stored (m + 1) (.int .i64 (y : Int))).1.stored m (.int .i64 (x : Int))).1
                · exact ((K.out.2.1.drewN _).setCell (.inl rfl) _).setCell (.inl rfl) _
                · rw [K.out.2.2.1, insR, if_pos hlt, List.append_assoc]; rfl
                · exact fun z hz => K.out.2.2.2 z (List.mem_cons_of_mem _ hz)
          · have hc0 : decide (cc < 0) = false := decide_eq_false (fun h => hlt (HCL.out.1 h))
            have HEND : Hid (wr.ownsRow base tInt1 1 (.slice (some ⟨g, 0, none⟩) n cap) n (ints ((insL f (l.take (i + 1 + 1))).reverse ++ l.drop (i + 1 + 1))) ∧ Chg (fun k => k = g) w wr) := by
              refine ⟨?_, K.out.2.1⟩
              have h1 := K.out.1
              have h2 := K.out.2.2.1
              rw [HE.out, h2, insR, if_neg hlt]
              simpa [midRow] using h1
            go_wp2_with fail
            go_quiet ((go_at_call 102; exact (Calls.quiet_of ((HC1 _).out (K.out.2.1.drewN _)))))
            go_wp2
            go_roundg (n - (i + 1))
            case measure => omega
            case rel => exact ⟨i + 1, rfl, by omega, by go_num, HEND.out.1, HEND.out.2.drewN _⟩
    · obtain rfl : n = i + 1 := by omega
      have HEND : Hid (wr.ownsRow base tInt1 1 (.slice (some ⟨g, 0, none⟩) (i + 1) cap) (i + 1) (ints (sortR f l)) ∧ Chg (fun k => k = g) w wr) := by
        refine ⟨?_, H.out.2⟩
        have := H.out.1
        rw [List.take_of_length_le (by rw [HN.out]; exact Nat.le_refl _), List.drop_of_length_le (by rw [HN.out]; exact Nat.le_refl _), List.append_nil] at this
        exact this
      clear hlast
      go_wp2
      go_end0
      exact ⟨rfl, HEND.out⟩
theorem stable_calls {w : World} {h : DevH} {t : LgH} {G : Lg} (hl : LgAt w h t G) (B : Nat) (hB : Blk w B 82 #[.pointer (some ⟨t.L, 0, none⟩)]) (base : Nat) (v : Value) (l : List Nat)
    (hown : w.ownsRow base tInt1 1 v l.length (ints l)) (hgo : ∀ k, v.ownBlock = some k → ¬ t.own k) (hlt : ∀ x ∈ l, x < G.regs.length) (hn : l.length < 20) :
    Calls Tryz.prog 101 #[v, .func (.func 102) #[] #[.pointer (some ⟨B, 0, none⟩)]] w
      fun e w' => e = .returned (.tuple #[]) ∧ w'.ownsRow base tInt1 1 v l.length (ints (sortR (rnum G.regs) l)) ∧ Chg (rowOf v) w w' := by
  have HI : Hid (∀ (A : Option Addr) (c : Nat), v = .slice A l.length c → Calls Tryz.prog 128 #[.slice A l.length c, .int .i64 0, .int .i64 l.length, .func (.func 102) #[] #[.pointer (some ⟨B, 0, none⟩)]] w
      fun e w' => e = .returned (.tuple #[]) ∧ w'.ownsRow base tInt1 1 v l.length (ints (sortR (rnum G.regs) l)) ∧ Chg (rowOf v) w w') := by
    intro A c hv
    by_cases h2 : 2 ≤ l.length
    · rcases hown.2 with ⟨h0, h1⟩ | ⟨g, cap, cur, h0, _⟩
      · have := hown.1; rw [h1] at this; simp [ints] at this; omega
      · subst hv
        injection h0 with e1 e2 e3
        subst e1
        refine (insertion_calls hl B hB g c base l hown (hgo g (by simp [Value.ownBlock])) hlt (by omega) h2).mono ?_
        rintro e w' ⟨he, ho, hc⟩
        exact ⟨he, ho, hc.mono (fun k _ hk => by unfold rowOf; rw [hk]; simp [Value.ownBlock])⟩
    · refine (insertion_small (w := w) _ _ l.length (by omega)).mono ?_
      rintro e w' ⟨he, rfl⟩
      refine ⟨he, ?_, Chg.refl _ _⟩
      have : sortR (rnum G.regs) l = l := by
        match l, h2 with
        | [], _ => rfl
        | [x], _ => rfl
        | _ :: _ :: _, h2 => simp at h2
      rw [this]; exact hown
  obtain ⟨A, c, hv, hnc, _⟩ := own_slice hown
  have hI := HI.out A c hv
  have HI2 := Lib.hid hI
  have HV := Lib.hid hv
  obtain ⟨n, hnl⟩ : ∃ n, n = l.length := ⟨_, rfl⟩
  rw [← hnl] at HI2 HV hn ⊢
  obtain rfl := HV.out
  have h20 : ¬ (20 : Int) ≤ (n : Int) := by omega
  have h20' : ¬ (20 : Int) < (n : Int) := by omega
  clear hl hB hown hgo hlt HI hv hI HV hnl hnc
  have HS : Hid (Calls Tryz.prog 119 #[.slice A n c, .int .i64 n, .func (.func 102) #[] #[.pointer (some ⟨B, 0, none⟩)]] w
      fun e w' => e = .returned (.tuple #[]) ∧ w'.ownsRow base tInt1 1 (.slice A n c) n (ints (sortR (rnum G.regs) l)) ∧ Chg (rowOf (.slice A n c)) w w') := by
    go_enter Tryz.func119, Tryz.ntmps119
    go_wp2
    go_loopg [7, 8] 0 (fun gk va vb wr => va = .int .i64 0 ∧ vb = .int .i64 20 ∧ w = wr)
    case atStart => exact ⟨rfl, rfl, rfl⟩
    case round =>
      obtain ⟨rfl, rfl, rfl⟩ := hrel
      go_wp2_with fail
      refine HI2.out.mono ?_
      rintro e w1 ⟨rfl, ho1, hc1⟩
      have HO1 := Lib.hid (And.intro ho1 hc1)
      clear ho1 hc1
      go_wp2
      go_loopg [6] 0 (fun gk va wr => va = .int .i64 20 ∧ w1 = wr)
      case atStart => exact ⟨rfl, rfl⟩
      case round =>
        obtain ⟨rfl, rfl⟩ := hrel
        go_wp2
        go_end0
        exact ⟨rfl, HO1.out⟩
  clear HI2
  go_enter Tryz.func101, Tryz.ntmps101
  go_wp2_with fail
  refine HS.out.mono ?_
  rintro e w1 ⟨rfl, ho1, hc1⟩
  have HO1 := Lib.hid (And.intro ho1 hc1)
  clear ho1 hc1
  go_wp2
  go_end0
  exact ⟨rfl, HO1.out⟩
end Go.Proofs.YtplpbbdakihnfaaGreat
end
