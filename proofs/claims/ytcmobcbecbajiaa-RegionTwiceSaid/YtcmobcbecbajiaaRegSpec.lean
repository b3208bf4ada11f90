/- The log in regions in plain Lean: what its functions compute. -/
import Derived.Test.YtcmobcbecbajiaaImgS
import Derived.Test.YtcmobcbecbajiaaMaps
namespace Go.Proofs.Ytcmobcbecbajiaa
open Go.RowKit
set_option linter.unusedSimpArgs false
set_option linter.unusedVariables false

/-- where a key's item stands -/
structure Pl where
  op : Bool
  rg : Nat
  ix : Nat
  deriving DecidableEq
/-- a sealed region; number 0: none -/
structure Sealed where
  num : Nat
  l : List Item
def Sealed.no : Sealed := ⟨0, []⟩
abbrev Keys := List (ByteArray × Pl)
structure Lg where
  losses : Int
  first : Nat
  regs : List Sealed
  opn : List Item
  number : Nat
  keys : Keys

/-! a page of a region -/
def rgHead (k n m : Nat) : List UInt8 := [82, 71, UInt8.ofNat k, 0] ++ (le 4 m ++ le 8 n)
def rgPart (b : List UInt8) (k : Nat) : List UInt8 := (b.drop (k * 368)).take 368
def rgPg (b : List UInt8) (n k : Nat) : List UInt8 := rgHead k n (rgPart b k).length ++ rgPart b k
def rgForm (p : List UInt8) (k : Nat) : Bool := decide (p.take 2 = [82, 71]) && (decide ((p.getD 2 0).toNat = k) && ((p.getD 3 0 == 0) && decide (num (cut p 4 8) ≤ 368)))
def rgN (p : List UInt8) (k : Nat) : Nat := if rgForm p k then num (cut p 8 16) else 0
def rgB (p : List UInt8) (k : Nat) : List UInt8 := if rgForm p k then cut p 16 (16 + num (cut p 4 8)) else []
def Pg.rn (p : Pg) (k : Nat) : Nat := match p with
  | .full b => rgN b k
  | _ => 0
def Pg.rb (p : Pg) (k : Nat) : List UInt8 := match p with
  | .full b => rgB b k
  | _ => []
/-- the number that stands on a page, whatever its place -/
def Pg.rs (p : Pg) : Nat := match p with
  | .full b => rgN b (b.getD 2 0).toNat
  | _ => 0

/-! a region that is read -/
def ldNums (P : Nat → Pg) (k : Nat) : List Nat := (List.range k).map fun j => (P j).rn j
def ldB (P : Nat → Pg) (k : Nat) : List UInt8 := (List.range k).flatMap fun j => (P j).rb j
def ldTop (P : Nat → Pg) (m : Nat) (k : Nat) : Nat := (List.range k).foldl (fun m j => max m (P j).rs) m
def listMin (l : List Nat) : Nat := l.tail.foldl min (l.headD 0)
def listMax (l : List Nat) : Nat := l.tail.foldl max (l.headD 0)
def ldS (P : Nat → Pg) : Sealed := match listOf (ldB P 4) with
  | some l => if listMin (ldNums P 4) = listMax (ldNums P 4) ∧ (P 0).rn 0 ≠ 0 then ⟨(P 0).rn 0, l⟩ else .no
  | none => .no
def Dev.rpg (D : Dev) (first i : Nat) : Nat → Pg := fun k => D.page (first + 4 * i + k)
def opRegs (D : Dev) (first n : Nat) : List Sealed := (List.range n).map fun i => ldS (D.rpg first i)
def opTop (D : Dev) (first n : Nat) : Nat := (List.range n).foldl (fun m i => ldTop (D.rpg first i) m 4) 0

/-! regions by rising numbers: one is put in behind the other, from the end on -/
def insR (f : Nat → Nat) (x : Nat) : List Nat → List Nat
  | [] => [x]
  | y :: r => if f x < f y then y :: insR f x r else x :: y :: r
def sortR (f : Nat → Nat) (l : List Nat) : List Nat := (l.foldl (fun r x => insR f x r) []).reverse
def rnum (regs : List Sealed) (i : Nat) : Nat := (regs.getD i .no).num
def rl (regs : List Sealed) (i : Nat) : List Item := (regs.getD i .no).l
def counts (regs : List Sealed) : List Nat := (List.range regs.length).filter fun i => decide (0 < rnum regs i)
def byNum (regs : List Sealed) : List Nat := sortR (rnum regs) (counts regs)

/-! keys -/
def layK (i : Nat) (ks : Keys) (l : List Item) : Keys := l.zipIdx.foldl (fun ks p => aset ks p.1.key ⟨false, i, p.2⟩) ks
def moveK (i : Nat) (ks : Keys) (l : List Item) : Keys := l.zipIdx.foldl (fun ks p => if aget ks p.1.key = some ⟨true, 0, p.2⟩ then aset ks p.1.key ⟨false, i, p.2⟩ else ks) ks
def giveK (i : Nat) (ks : Keys) (l : List Item) : List Item × Keys := l.zipIdx.foldl (fun s p => if aget s.2 p.1.key = some ⟨false, i, p.2⟩ then (s.1 ++ [p.1], adel s.2 p.1.key) else s) ([], ks)
def pick (ks : Keys) (pl : Nat → Pl) (l : List Item) : List Item := (l.zipIdx.filter fun p => decide (aget ks p.1.key = some (pl p.2))).map (·.1)

/-! the log -/
def Lg.openE (D : Dev) (first regions : Int) : Int := if first < 0 ∨ regions < 1 ∨ 64 < regions ∨ (D.n : Int) < first ∨ (D.n : Int) - first < 4 * regions then 1 else if D.off then 4 else 0
def Lg.opened (D : Dev) (first n : Nat) : Lg :=
  let regs := opRegs D first n
  { losses := D.losses, first, regs, opn := [], number := opTop D first n, keys := (byNum regs).foldl (fun ks i => layK i ks (rl regs i)) [] }
namespace Lg
def has (G : Lg) (key : ByteArray) : Bool := (aget G.keys key).isSome
def item (G : Lg) (p : Pl) : Item := if p.op then G.opn.getD p.ix Item.zero else (rl G.regs p.rg).getD p.ix Item.zero
def get (G : Lg) (key : ByteArray) : Item := match aget G.keys key with
  | some p => G.item p
  | none => Item.zero
def getE (G : Lg) (key : ByteArray) : Int := if G.has key then 0 else 5
def drop (G : Lg) (key : ByteArray) : Lg := { G with keys := adel G.keys key }
def items (G : Lg) : List Item := (byNum G.regs).flatMap (fun i => pick G.keys (fun at_ => ⟨false, i, at_⟩) (rl G.regs i)) ++ pick G.keys (fun at_ => ⟨true, 0, at_⟩) G.opn
def add (G : Lg) (x : Item) : Lg := { G with keys := aset G.keys x.key ⟨true, 0, G.opn.length⟩, opn := G.opn ++ [x] }
end Lg

/-- the open region is written from page k on, f pages are left; the error -/
def wrGo (base : Int) (n : Nat) (b : List UInt8) : Nat → Nat → Dev → Dev × Int
  | _, 0, D => (D.flush, D.changeE)
  | k, f + 1, D => if D.writeE (base + k) (rgPg b n k).length = 0 then wrGo base n b (k + 1) f (D.write (base + k) (rgPg b n k)) else (D.write (base + k) (rgPg b n k), D.writeE (base + k) (rgPg b n k).length)
def wr (D : Dev) (base : Int) (n : Nat) (b : List UInt8) : Dev × Int := wrGo base n b 0 4 D

structure LgR where
  G : Lg
  D : Dev
  lost : List Item
  e : Int
namespace Lg
/-- where the next region goes -/
def next (G : Lg) : Nat := (G.number + 1) % G.regs.length
def given (G : Lg) : List Item × Keys := giveK G.next G.keys (rl G.regs G.next)
def gave (G : Lg) : Lg := { G with regs := G.regs.set G.next .no, keys := G.given.2 }
def wrote (G : Lg) (D : Dev) : Dev × Int := wr D ((G.first + 4 * G.next : Nat) : Int) (G.number + 1) (records G.opn)
def shut (G : Lg) : Lg := { G with number := G.number + 1, regs := (G.regs.set G.next .no).set G.next ⟨G.number + 1, G.opn⟩, keys := moveK G.next G.given.2 G.opn, opn := [] }
def sl (G : Lg) (D : Dev) : LgR :=
  if G.opn = [] then ⟨G, D, [], 0⟩
  else if G.losses ≠ D.losses then ⟨G, D, [], 4⟩
  else if G.number = 18446744073709551615 then ⟨G, D, [], 9⟩
  else if (G.wrote D).2 = 0 then ⟨G.shut, (G.wrote D).1, G.given.1, 0⟩
  else ⟨G.gave, (G.wrote D).1, G.given.1, (G.wrote D).2⟩
def fits (x : Item) : Bool := x.good && decide (x.size ≤ 1472)
def put (G : Lg) (D : Dev) (x : Item) : LgR :=
  if fits x then
    (if isum G.opn + x.size ≤ 1472 then ⟨G.add x, D, [], 0⟩
    else if (G.sl D).e = 0 then ⟨(G.sl D).G.add x, (G.sl D).D, (G.sl D).lost, 0⟩
    else G.sl D)
  else ⟨G, D, [], 1⟩
end Lg

/-- a key's place holds an item of this key -/
def Lg.plOk (G : Lg) (key : ByteArray) (p : Pl) : Prop :=
  if p.op then p.rg = 0 ∧ ∃ x, G.opn[p.ix]? = some x ∧ x.key = key else ∃ S x, G.regs[p.rg]? = some S ∧ S.l[p.ix]? = some x ∧ x.key = key
/-- what holds of each log -/
structure Lg.Ok (G : Lg) : Prop where
  pos : 0 < G.regs.length
  most : G.regs.length ≤ 64
  fit : G.first + 4 * G.regs.length ≤ 4096
  num : G.number < 18446744073709551616
  small : ∀ S ∈ G.regs, S.l.length ≤ 1000 ∧ S.num < 18446744073709551616
  good : goods G.opn = true
  sum : isum G.opn ≤ 1472
  keys : ∀ key p, aget G.keys key = some p → G.plOk key p

theorem isum_len (l : List Item) (h : goods l = true) : l.length * 33 ≤ isum l := by
  induction l with
  | nil => simp [isum]
  | cons x r ih =>
    simp only [goods, List.all_cons, Bool.and_eq_true] at h
    have := ih h.2
    have hx := h.1
    simp only [Item.good, Bool.and_eq_true, decide_eq_true_eq] at hx
    simp only [isum, List.map_cons, List.sum_cons, List.length_cons, Item.size] at this ⊢
    omega
theorem Lg.Ok.len {G : Lg} (h : G.Ok) : G.opn.length ≤ 44 := by
  have := isum_len _ h.good
  have := h.sum
  omega
theorem lst_len : ∀ (k : Nat) (b : List UInt8) (l : List Item), lst k b = some l → l.length * 33 ≤ b.length := by
  intro k
  induction k with
  | zero => intro b l h; cases h
  | succ k ih =>
    intro b l h
    rw [lst] at h
    cases ht : take b with
    | none => rw [ht] at h; simp only [Option.some.injEq] at h; subst h; simp
    | bad => rw [ht] at h; cases h
    | ok x n =>
      rw [ht] at h
      have hl := take_ok_len ht
      simp only [Option.map_eq_some_iff] at h
      obtain ⟨r, hr, rfl⟩ := h
      have := ih _ _ hr
      rw [List.length_drop] at this
      simp only [List.length_cons]
      omega
theorem listOf_len {b : List UInt8} {l : List Item} (h : listOf b = some l) : l.length * 33 ≤ b.length := lst_len _ _ _ h

/-! keys as the memory has them -/
section
variable {V W : Type} (f : V → W)
def amap (l : List (ByteArray × V)) : List (ByteArray × W) := l.map fun p => (p.1, f p.2)
theorem aget_amap (l : List (ByteArray × V)) (k : ByteArray) : aget (amap f l) k = (aget l k).map f := by
  induction l with
  | nil => rfl
  | cons p r ih =>
    simp only [amap, List.map_cons, aget] at ih ⊢
    split
    · rfl
    · exact ih
theorem aset_amap (l : List (ByteArray × V)) (k : ByteArray) (v : V) : aset (amap f l) k (f v) = amap f (aset l k v) := by
  induction l with
  | nil => rfl
  | cons p r ih =>
    simp only [amap, List.map_cons, aset] at ih ⊢
    split
    · rfl
    · rw [List.map_cons, ih]
theorem adel_amap (l : List (ByteArray × V)) (k : ByteArray) : adel (amap f l) k = amap f (adel l k) := by
  induction l with
  | nil => rfl
  | cons p r ih =>
    simp only [amap, List.map_cons, adel] at ih ⊢
    split
    · rfl
    · rw [List.map_cons, ih]
theorem akeys_amap (l : List (ByteArray × V)) : akeys (amap f l) = akeys l := by
  simp [akeys, amap, Function.comp_def]
end
end Go.Proofs.Ytcmobcbecbajiaa
