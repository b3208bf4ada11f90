/- Words for memory that all walks of this seat use: what may have changed between two worlds, a block known whole, a row of cells that is read. No program is named here. -/
import Derived.WalkKit
import Derived.WalkLawsBesides
import Derived.WalkSpells
import Derived.Lib.Hide
import Derived.Deep.Draws
import Derived.ChangeMaps4
namespace Go.Proofs.YtedkoplgfidjlaaDoor
open Go.RowKit
open Go.ChangeMaps (setBlock)

/-- Between w and w' only blocks of S, and new ones, have changed. -/
structure Chg (S : Nat → Prop) (w w' : World) : Prop where
  os : w'.os = w.os
  tape : w'.tape = w.tape
  output : w'.output = w.output
  size : w.heap.size ≤ w'.heap.size
  block : ∀ k, k < w.heap.size → ¬ S k → w'.heap[k]? = w.heap[k]?

def No : Nat → Prop := fun _ => False

section
variable {S T : Nat → Prop} {a b c w w' : World}
theorem Chg.refl (S : Nat → Prop) (w : World) : Chg S w w := ⟨rfl, rfl, rfl, Nat.le_refl _, fun _ _ _ => rfl⟩
theorem Chg.trans (h : Chg S a b) (k : Chg S b c) : Chg S a c :=
  ⟨k.os.trans h.os, k.tape.trans h.tape, k.output.trans h.output, Nat.le_trans h.size k.size,
    fun i hi hs => (k.block i (Nat.lt_of_lt_of_le hi h.size) hs).trans (h.block i hi hs)⟩
theorem Chg.mono (h : Chg T a b) (hs : ∀ k, k < a.heap.size → T k → S k) : Chg S a b :=
  ⟨h.os, h.tape, h.output, h.size, fun i hi hn => h.block i hi (fun ht => hn (hs i hi ht))⟩
/-- a second step that may change other, but new, blocks -/
theorem Chg.then (h : Chg S a b) (k : Chg T b c) (hs : ∀ i, i < a.heap.size → T i → S i) : Chg S a c :=
  ⟨k.os.trans h.os, k.tape.trans h.tape, k.output.trans h.output, Nat.le_trans h.size k.size,
    fun i hi hn => (k.block i (Nat.lt_of_lt_of_le hi h.size) (fun ht => hn (hs i hi ht))).trans (h.block i hi hn)⟩
theorem Chg.drew (h : Chg S a w) : Chg S a w.drew := ⟨h.os, h.tape, h.output, h.size, h.block⟩
theorem Chg.drewN (h : Chg S a w) (n : Nat) : Chg S a (w.drewN n) := ⟨h.os, h.tape, h.output, h.size, h.block⟩
theorem Chg.alloc (h : Chg S a w) (o : Obj) : Chg S a (w.alloc o) :=
  ⟨h.os, h.tape, h.output, Nat.le_trans h.size (by simp), fun i hi hn => (Below.heap_alloc w o i (Nat.lt_of_lt_of_le hi h.size)).trans (h.block i hi hn)⟩
theorem Chg.setCell (h : Chg S a w) {p : Addr} (hp : S p.block ∨ a.heap.size ≤ p.block) (u : Value) : Chg S a (w.setCell p u) :=
  ⟨h.os, h.tape, h.output, by simpa [World.setCell] using h.size, fun i hi hn => (Below.heap_setCell w p u i (by
    rintro rfl
    rcases hp with hp | hp
    · exact hn hp
    · omega)).trans (h.block i hi hn)⟩
theorem Chg.setBlock (h : Chg S a w) {g : Nat} (hp : S g ∨ a.heap.size ≤ g) (o : Obj) : Chg S a (setBlock w g o) :=
  ⟨h.os, h.tape, h.output, by simpa [Go.ChangeMaps.setBlock] using h.size, fun i hi hn => by
    have hne : g ≠ i := by
      rintro rfl
      rcases hp with hp | hp
      · exact hn hp
      · omega
    rw [← h.block i hi hn]
    simp [Go.ChangeMaps.setBlock, hne]⟩
theorem Chg.below (h : Chg S a w) (hb : Below w.heap.size w w') : Chg S a w' :=
  h.then (T := No) ⟨hb.os, hb.tape, hb.output, hb.size, fun k hk _ => hb.block k hk⟩ (fun _ _ h => h.elim)
theorem Chg.grown (h : Chg S a w) {row : Option Nat} (hg : w.grownBy w' row) (hr : ∀ k, row = some k → S k ∨ a.heap.size ≤ k) : Chg S a w' :=
  h.then (T := fun k => row = some k) ⟨hg.os, hg.tape, hg.output, hg.size, fun k hk hn => hg.block k hk (fun e => hn e.symm)⟩ (fun i hi hT => by
    rcases hr i hT with h | h
    · exact h
    · omega)
theorem Chg.toBelow (h : Chg No a b) : Below a.heap.size a b := ⟨h.os, h.tape, h.output, h.size, fun k hk => h.block k hk (fun h => h)⟩
theorem Chg.ofBelow (h : Below a.heap.size a b) : Chg S a b := ⟨h.os, h.tape, h.output, h.size, fun k hk _ => h.block k hk⟩
theorem Chg.at_ (h : Chg S a b) {k : Nat} {o : Obj} (ho : a.heap[k]? = some o) (hn : ¬ S k) : b.heap[k]? = some o := by
  have hk : k < a.heap.size := (Array.getElem?_eq_some_iff.1 ho).1
  rw [h.block k hk hn, ho]
end

theorem chg_setBlock (w : World) (g : Nat) (o : Obj) : Chg (fun i => i = g) w (setBlock w g o) := Chg.setBlock (S := fun i => i = g) (Chg.refl _ _) (.inl rfl) _
theorem chg_setCell (w : World) (p : Addr) (u : Value) : Chg (fun i => i = p.block) w (w.setCell p u) := Chg.setCell (S := fun i => i = p.block) (Chg.refl _ _) (.inl rfl) _

/-- a world of which only F is to be known from here on -/
theorem wp_forget {P : Program} {c : Code} {Q : Exit → Act → World → Prop} {a : Act} {w : World} (F : World → Prop) (h : F w) (hh : ∀ W, F W → c.wp P Q a W) : c.wp P Q a w := hh w h

/-- Block g is just the cells cs of type t, none of them frozen. -/
def Blk (w : World) (g : Nat) (t : TypeId) (cs : Array Value) : Prop := w.heap[g]? = some (.cells cs t (0, 0))

section
variable {S : Nat → Prop} {w w' : World} {g : Nat} {t : TypeId} {cs : Array Value}
theorem Blk.lt (h : Blk w g t cs) : g < w.heap.size := (Array.getElem?_eq_some_iff.1 h).1
theorem Blk.cell (h : Blk w g t cs) (i : Nat) : w.cell? ⟨g, i, none⟩ = cs[i]? := cell_of_row w g i cs t (0, 0) h
theorem Blk.frozen (h : Blk w g t cs) (i : Nat) : w.frozen? ⟨g, i, none⟩ = false := by
  unfold Blk at h
  simp [World.frozen?, h]
theorem Blk.new (w : World) (t : TypeId) (cs : Array Value) : Blk (w.alloc (.cells cs t)) w.heap.size t cs := heap_alloc_new w _
theorem Blk.drew (h : Blk w g t cs) : Blk w.drew g t cs := h
theorem Blk.drewN (h : Blk w g t cs) (n : Nat) : Blk (w.drewN n) g t cs := h
theorem Blk.alloc (h : Blk w g t cs) (o : Obj) : Blk (w.alloc o) g t cs := (Below.heap_alloc w o g h.lt).trans h
theorem Blk.set_ (h : Blk w g t cs) (i : Nat) (u : Value) : Blk (w.setCell ⟨g, i, none⟩ u) g t (cs.setIfInBounds i u) := by
  unfold Blk at h ⊢
  simp [World.setCell, Array.getElem?_modify, h]
theorem Blk.far (h : Blk w g t cs) {p : Addr} (hp : g ≠ p.block) (u : Value) : Blk (w.setCell p u) g t cs := (Below.heap_setCell w p u g hp).trans h
theorem Blk.chg (h : Blk w g t cs) (hc : Chg S w w') (hn : ¬ S g) : Blk w' g t cs := hc.at_ h hn
theorem Blk.ne_ {g' : Nat} {t' : TypeId} {cs' : Array Value} (h : Blk w g t cs) (h' : Blk w g' t' cs') (hne : t ≠ t') : g ≠ g' := by
  rintro rfl
  unfold Blk at h h'
  rw [h] at h'
  injection h' with h'
  injection h' with _ ht
  exact hne ht
end

/-- The k cells from the address A on are xs, in a block of elements of type t. Nothing is asked where k is 0. -/
def Rd (w : World) (t : TypeId) (A : Option Addr) (k : Nat) (xs : List Value) : Prop :=
  xs.length = k ∧ (0 < k → ∃ g off cur fz, A = some ⟨g, off, none⟩ ∧ w.heap[g]? = some (.cells cur t fz) ∧ ∀ j u, xs[j]? = some u → cur[off + j]? = some u)

section
variable {S : Nat → Prop} {w w' : World} {t : TypeId} {A : Option Addr} {k : Nat} {xs : List Value}
theorem Rd.nil (w : World) (t : TypeId) (A : Option Addr) : Rd w t A 0 [] := ⟨rfl, fun h => absurd h (by omega)⟩
theorem Rd.chg (h : Rd w t A k xs) (hc : Chg S w w') (hn : ∀ g cur fz, w.heap[g]? = some (.cells cur t fz) → ¬ S g) : Rd w' t A k xs :=
  ⟨h.1, fun hk => by
    obtain ⟨g, off, cur, fz, e, hg, hx⟩ := h.2 hk
    exact ⟨g, off, cur, fz, e, hc.at_ hg (hn g cur fz hg), hx⟩⟩
theorem Rd.below (h : Rd w t A k xs) (hb : Below w.heap.size w w') : Rd w' t A k xs := h.chg (S := No) (Chg.ofBelow hb) (fun _ _ _ _ h => h)
theorem Rd.drew (h : Rd w t A k xs) : Rd w.drew t A k xs := h
theorem Rd.drewN (h : Rd w t A k xs) (n : Nat) : Rd (w.drewN n) t A k xs := h
theorem Rd.alloc (h : Rd w t A k xs) (o : Obj) : Rd (w.alloc o) t A k xs := h.below ((Below.refl _ _).alloc (Nat.le_refl _) o)
theorem Rd.at_ (h : Rd w t A k xs) {j : Nat} (hj : j < k) : ∃ g off, A = some ⟨g, off, none⟩ ∧ g < w.heap.size ∧ ∀ j u, xs[j]? = some u → w.cell? ⟨g, off + j, none⟩ = some u := by
  obtain ⟨g, off, cur, fz, e, hg, hx⟩ := h.2 (by omega)
  exact ⟨g, off, e, (Array.getElem?_eq_some_iff.1 hg).1, fun j u hu => (cell_of_row w g _ cur t fz hg).trans (hx j u hu)⟩
theorem Rd.take (h : Rd w t A k xs) {m : Nat} (hm : m ≤ k) : Rd w t A m (xs.take m) :=
  ⟨by rw [List.length_take, h.1]; omega, fun hk => by
    obtain ⟨g, off, cur, fz, e, hg, hx⟩ := h.2 (by omega)
    refine ⟨g, off, cur, fz, e, hg, fun j u hu => hx j u ?_⟩
    rw [List.getElem?_take] at hu
    split at hu
    · exact hu
    · cases hu⟩
/-- a cut from the m-th cell on, as the model spells it ('cap = l': the address stays) -/
theorem Rd.drop (h : Rd w t A k xs) {m : Nat} (hm : m ≤ k) (q : Prop) [Decidable q] (hq : q → m = k) : Rd w t (if q then A else A.map (·.add m)) (k - m) (xs.drop m) :=
  ⟨by rw [List.length_drop, h.1], fun hk => by
    obtain ⟨g, off, cur, fz, e, hg, hx⟩ := h.2 (by omega)
    subst e
    rw [if_neg (fun hh => by have := hq hh; omega)]
    refine ⟨g, off + m, cur, fz, ?_, hg, fun j u hu => ?_⟩
    · by_cases h0 : m = 0
      · simp [Addr.add, h0]
      · simp [Addr.add, h0]
    · rw [Nat.add_assoc]
      exact hx _ u (by rw [← hu, List.getElem?_drop])⟩
theorem Rd.ofBlk {g : Nat} {cs : Array Value} (h : Blk w g t cs) (hk : k ≤ cs.size) : Rd w t (some ⟨g, 0, none⟩) k (cs.toList.take k) :=
  ⟨by simp; omega, fun _ => ⟨g, 0, cs, (0, 0), rfl, h, fun j u hu => by
    rw [List.getElem?_take] at hu
    split at hu
    · simpa using hu
    · cases hu⟩⟩
theorem Rd.ofOwn {base e size n : Nat} {c : Nat} (h : w.ownsRow base e size (.slice A n c) n xs) : Rd w e A (n * size) xs := by
  refine ⟨h.1, fun hk => ?_⟩
  rcases h.2 with ⟨_, h0⟩ | ⟨g, cap, cur, hv, _, hg, _, _, _, htake⟩
  · subst h0; simp at hk
  · injection hv with hA
    refine ⟨g, 0, cur, (0, 0), hA, hg, fun j u hu => ?_⟩
    rw [← htake, List.getElem?_take] at hu
    split at hu
    · simpa using hu
    · cases hu
end
end Go.Proofs.YtedkoplgfidjlaaDoor
