/- Packed texts: Base, Maps, FlashSpec, FlashRep, FlashA, Append. -/
import Derived.WalkKit
import Derived.WalkLawsBesides
import Derived.WalkSpells
import Derived.Lib.Hide
import Derived.Deep.Draws
import Derived.ChangeMaps4
import Derived.MapKept
import Derived.IntWalk
import Derived.Test.YtplpbbdakihnfaaGreatChecked
import Derived.Maps.AppendAt
import Derived.Laws.MakeOwn
import Derived.Laws.CopyOwn
set_option linter.unusedSimpArgs false
set_option linter.unusedVariables false
section
namespace Go.Proofs.YtplpbbdakihnfaaGreat
open Go.RowKit
open Go.ChangeMaps (setBlock)
structure Chg (S : Nat → Prop) (w w' : World) : Prop where
  os : w'.os = w.os
  tape : w'.tape = w.tape
  output : w'.output = w.output
  size : w.heap.size ≤ w'.heap.size
  block : ∀ k, k < w.heap.size → ¬ S k → w'.heap[k]? = w.heap[k]?
def No : Nat → Prop := fun _ => False
section
variable {S T : Nat → Prop} {a b c w w' : World}
theorem Chg.refl (S : Nat → Prop) (w : World) : Chg S w w := ⟨rfl, rfl, rfl, Nat.le_refl _, fun _ _ _ => rfl⟩
theorem Chg.trans (h : Chg S a b) (k : Chg S b c) : Chg S a c :=
  ⟨k.os.trans h.os, k.tape.trans h.tape, k.output.trans h.output, Nat.le_trans h.size k.size,
    fun i hi hs => (k.block i (Nat.lt_of_lt_of_le hi h.size) hs).trans (h.block i hi hs)⟩
theorem Chg.mono (h : Chg T a b) (hs : ∀ k, k < a.heap.size → T k → S k) : Chg S a b :=
  ⟨h.os, h.tape, h.output, h.size, fun i hi hn => h.block i hi (fun ht => hn (hs i hi ht))⟩
theorem Chg.then (h : Chg S a b) (k : Chg T b c) (hs : ∀ i, i < a.heap.size → T i → S i) : Chg S a c :=
  ⟨k.os.trans h.os, k.tape.trans h.tape, k.output.trans h.output, Nat.le_trans h.size k.size,
    fun i hi hn => (k.block i (Nat.lt_of_lt_of_le hi h.size) (fun ht => hn (hs i hi ht))).trans (h.block i hi hn)⟩
theorem Chg.drew (h : Chg S a w) : Chg S a w.drew := ⟨h.os, h.tape, h.output, h.size, h.block⟩
theorem Chg.drewN (h : Chg S a w) (n : Nat) : Chg S a (w.drewN n) := ⟨h.os, h.tape, h.output, h.size, h.block⟩
theorem Chg.alloc (h : Chg S a w) (o : Obj) : Chg S a (w.alloc o) :=
  ⟨h.os, h.tape, h.output, Nat.le_trans h.size (by simp), fun i hi hn => (Below.heap_alloc w o i (Nat.lt_of_lt_of_le hi h.size)).trans (h.block i hi hn)⟩
theorem Chg.setCell (h : Chg S a w) {p : Addr} (hp : S p.block ∨ a.heap.size ≤ p.block) (u : Value) : Chg S a (w.setCell p u) :=
  ⟨h.os, h.tape, h.output, by simpa [World.setCell] using h.size, fun i hi hn => (Below.heap_setCell w p u i (by
    rintro rfl
    rcases hp with hp | hp
    · exact hn hp
    · omega)).trans (h.block i hi hn)⟩
theorem Chg.setBlock (h : Chg S a w) {g : Nat} (hp : S g ∨ a.heap.size ≤ g) (o : Obj) : Chg S a (setBlock w g o) :=
  ⟨h.os, h.tape, h.output, by simpa [Go.ChangeMaps.setBlock] using h.size, fun i hi hn => by
    have hne : g ≠ i := by
      rintro rfl
      rcases hp with hp | hp
      · exact hn hp
      · omega
    rw [← h.block i hi hn]
    simp [Go.ChangeMaps.setBlock, hne]⟩
theorem Chg.below (h : Chg S a w) (hb : Below w.heap.size w w') : Chg S a w' :=
  h.then (T := No) ⟨hb.os, hb.tape, hb.output, hb.size, fun k hk _ => hb.block k hk⟩ (fun _ _ h => h.elim)
theorem Chg.grown (h : Chg S a w) {row : Option Nat} (hg : w.grownBy w' row) (hr : ∀ k, row = some k → S k ∨ a.heap.size ≤ k) : Chg S a w' :=
  h.then (T := fun k => row = some k) ⟨hg.os, hg.tape, hg.output, hg.size, fun k hk hn => hg.block k hk (fun e => hn e.symm)⟩ (fun i hi hT => by
    rcases hr i hT with h | h
    · exact h
    · omega)
theorem Chg.toBelow (h : Chg No a b) : Below a.heap.size a b := ⟨h.os, h.tape, h.output, h.size, fun k hk => h.block k hk (fun h => h)⟩
theorem Chg.ofBelow (h : Below a.heap.size a b) : Chg S a b := ⟨h.os, h.tape, h.output, h.size, fun k hk _ => h.block k hk⟩
theorem Chg.at_ (h : Chg S a b) {k : Nat} {o : Obj} (ho : a.heap[k]? = some o) (hn : ¬ S k) : b.heap[k]? = some o := by
  have hk : k < a.heap.size := (Array.getElem?_eq_some_iff.1 ho).1
  rw [h.block k hk hn, ho]
end
theorem chg_setBlock (w : World) (g : Nat) (o : Obj) : Chg (fun i => i = g) w (setBlock w g o) := Chg.setBlock (S := fun i => i = g) (Chg.refl _ _) (.inl rfl) _
theorem chg_setCell (w : World) (p : Addr) (u : Value) : Chg (fun i => i = p.block) w (w.setCell p u) := Chg.setCell (S := fun i => i = p.block) (Chg.refl _ _) (.inl rfl) _
theorem wp_forget {P : Program} {c : Code} {Q : Exit → Act → World → Prop} {a : Act} {w : World} (F : World → Prop) (h : F w) (hh : ∀ W, F W → c.wp P Q a W) : c.wp P Q a w := hh w h
def Blk (w : World) (g : Nat) (t : TypeId) (cs : Array Value) : Prop := w.heap[g]? = some (.cells cs t (0, 0))
section
variable {S : Nat → Prop} {w w' : World} {g : Nat} {t : TypeId} {cs : Array Value}
theorem Blk.lt (h : Blk w g t cs) : g < w.heap.size := (Array.getElem?_eq_some_iff.1 h).1
theorem Blk.cell (h : Blk w g t cs) (i : Nat) : w.cell? ⟨g, i, none⟩ = cs[i]? := cell_of_row w g i cs t (0, 0) h
theorem Blk.frozen (h : Blk w g t cs) (i : Nat) : w.frozen? ⟨g, i, none⟩ = false := by
  unfold Blk at h
  simp [World.frozen?, h]
theorem Blk.new (w : World) (t : TypeId) (cs : Array Value) : Blk (w.alloc (.cells cs t)) w.heap.size t cs := heap_alloc_new w _
theorem Blk.drew (h : Blk w g t cs) : Blk w.drew g t cs := h
theorem Blk.drewN (h : Blk w g t cs) (n : Nat) : Blk (w.drewN n) g t cs := h
theorem Blk.alloc (h : Blk w g t cs) (o : Obj) : Blk (w.alloc o) g t cs := (Below.heap_alloc w o g h.lt).trans h
theorem Blk.set_ (h : Blk w g t cs) (i : Nat) (u : Value) : Blk (w.setCell ⟨g, i, none⟩ u) g t (cs.setIfInBounds i u) := by
  unfold Blk at h ⊢
  simp [World.setCell, Array.getElem?_modify, h]
theorem Blk.far (h : Blk w g t cs) {p : Addr} (hp : g ≠ p.block) (u : Value) : Blk (w.setCell p u) g t cs := (Below.heap_setCell w p u g hp).trans h
theorem Blk.chg (h : Blk w g t cs) (hc : Chg S w w') (hn : ¬ S g) : Blk w' g t cs := hc.at_ h hn
theorem Blk.ne_ {g' : Nat} {t' : TypeId} {cs' : Array Value} (h : Blk w g t cs) (h' : Blk w g' t' cs') (hne : t ≠ t') : g ≠ g' := by
  rintro rfl
  unfold Blk at h h'
  rw [h] at h'
  injection h' with h'
  injection h' with _ ht
  exact hne ht
end
def Rd (w : World) (t : TypeId) (A : Option Addr) (k : Nat) (xs : List Value) : Prop :=
  xs.length = k ∧ (0 < k → ∃ g off cur fz, A = some ⟨g, off, none⟩ ∧ w.heap[g]? = some (.cells cur t fz) ∧ ∀ j u, xs[j]? = some u → cur[off + j]? = some u)
section
variable {S : Nat → Prop} {w w' : World} {t : TypeId} {A : Option Addr} {k : Nat} {xs : List Value}
theorem Rd.nil (w : World) (t : TypeId) (A : Option Addr) : Rd w t A 0 [] := ⟨rfl, fun h => absurd h (by omega)⟩
theorem Rd.chg (h : Rd w t A k xs) (hc : Chg S w w') (hn : ∀ g cur fz, w.heap[g]? = some (.cells cur t fz) → ¬ S g) : Rd w' t A k xs :=
  ⟨h.1, fun hk => by
    obtain ⟨g, off, cur, fz, e, hg, hx⟩ := h.2 hk
    exact ⟨g, off, cur, fz, e, hc.at_ hg (hn g cur fz hg), hx⟩⟩
theorem Rd.below (h : Rd w t A k xs) (hb : Below w.heap.size w w') : Rd w' t A k xs := h.chg (S := No) (Chg.ofBelow hb) (fun _ _ _ _ h => h)
theorem Rd.drew (h : Rd w t A k xs) : Rd w.drew t A k xs := h
theorem Rd.drewN (h : Rd w t A k xs) (n : Nat) : Rd (w.drewN n) t A k xs := h
theorem Rd.alloc (h : Rd w t A k xs) (o : Obj) : Rd (w.alloc o) t A k xs := h.below ((Below.refl _ _).alloc (Nat.le_refl _) o)
theorem Rd.at_ (h : Rd w t A k xs) {j : Nat} (hj : j < k) : ∃ g off, A = some ⟨g, off, none⟩ ∧ g < w.heap.size ∧ ∀ j u, xs[j]? = some u → w.cell? ⟨g, off + j, none⟩ = some u := by
  obtain ⟨g, off, cur, fz, e, hg, hx⟩ := h.2 (by omega)
  exact ⟨g, off, e, (Array.getElem?_eq_some_iff.1 hg).1, fun j u hu => (cell_of_row w g _ cur t fz hg).trans (hx j u hu)⟩
theorem Rd.take (h : Rd w t A k xs) {m : Nat} (hm : m ≤ k) : Rd w t A m (xs.take m) :=
  ⟨by rw [List.length_take, h.1]; omega, fun hk => by
    obtain ⟨g, off, cur, fz, e, hg, hx⟩ := h.2 (by omega)
    refine ⟨g, off, cur, fz, e, hg, fun j u hu => hx j u ?_⟩
    rw [List.getElem?_take] at hu
    split at hu
    · exact hu
    · cases hu⟩
theorem Rd.drop (h : Rd w t A k xs) {m : Nat} (hm : m ≤ k) (q : Prop) [Decidable q] (hq : q → m = k) : Rd w t (if q then A else A.map (·.add m)) (k - m) (xs.drop m) :=
  ⟨by rw [List.length_drop, h.1], fun hk => by
    obtain ⟨g, off, cur, fz, e, hg, hx⟩ := h.2 (by omega)
    subst e
    rw [if_neg (fun hh => by have := hq hh; omega)]
    refine ⟨g, off + m, cur, fz, ?_, hg, fun j u hu => ?_⟩
    · by_cases h0 : m = 0
      · simp [Addr.add, h0]
      · simp [Addr.add, h0]
    · rw [Nat.add_assoc]
      exact hx _ u (by rw [← hu, List.getElem?_drop])⟩
theorem Rd.ofBlk {g : Nat} {cs : Array Value} (h : Blk w g t cs) (hk : k ≤ cs.size) : Rd w t (some ⟨g, 0, none⟩) k (cs.toList.take k) :=
  ⟨by simp; omega, fun _ => ⟨g, 0, cs, (0, 0), rfl, h, fun j u hu => by
    rw [List.getElem?_take] at hu
    split at hu
    · simpa using hu
    · cases hu⟩⟩
theorem Rd.ofOwn {base e size n : Nat} {c : Nat} (h : w.ownsRow base e size (.slice A n c) n xs) : Rd w e A (n * size) xs := by
  refine ⟨h.1, fun hk => ?_⟩
  rcases h.2 with ⟨_, h0⟩ | ⟨g, cap, cur, hv, _, hg, _, _, _, htake⟩
  · subst h0; simp at hk
  · injection hv with hA
    refine ⟨g, 0, cur, (0, 0), hA, hg, fun j u hu => ?_⟩
    rw [← htake, List.getElem?_take] at hu
    split at hu
    · simpa using hu
    · cases hu
end
end Go.Proofs.YtplpbbdakihnfaaGreat
end

section
namespace Go.Proofs.YtplpbbdakihnfaaGreat
open Go.RowKit
open Go.ChangeMaps (setBlock)
open Go.MapKept (run_setObj_map run_checkKey bytes_beq)
set_option linter.unusedSectionVars false
section plain
variable {κ V : Type} [DecidableEq κ]
def aget (l : List (κ × V)) (k : κ) : Option V := match l with
  | [] => none
  | p :: r => if p.1 = k then some p.2 else aget r k
def aset (l : List (κ × V)) (k : κ) (v : V) : List (κ × V) := match l with
  | [] => [(k, v)]
  | p :: r => if p.1 = k then (k, v) :: r else p :: aset r k v
def adel (l : List (κ × V)) (k : κ) : List (κ × V) := match l with
  | [] => []
  | p :: r => if p.1 = k then r else p :: adel r k
def akeys (l : List (κ × V)) : List κ := l.map (·.1)
theorem aget_none {l : List (κ × V)} {k : κ} : aget l k = none ↔ k ∉ akeys l := by
  induction l with
  | nil => simp [aget, akeys]
  | cons p r ih =>
    simp only [aget, akeys, List.map_cons, List.mem_cons, not_or]
    by_cases h : p.1 = k
    · simp [h]
    · rw [if_neg h, ih]
      simp only [akeys]
      exact ⟨fun hh => ⟨fun e => h e.symm, hh⟩, fun hh => hh.2⟩
theorem aget_mem {l : List (κ × V)} {k : κ} {v : V} (h : aget l k = some v) : (k, v) ∈ l := by
  induction l with
  | nil => simp [aget] at h
  | cons p r ih =>
    simp only [aget] at h
    split at h
    · rename_i hk
      injection h with h
      subst h; subst hk
      exact List.mem_cons_self
    · exact List.mem_cons_of_mem _ (ih h)
theorem aget_of_mem {l : List (κ × V)} (hn : (akeys l).Nodup) {k : κ} {v : V} (h : (k, v) ∈ l) : aget l k = some v := by
  induction l with
  | nil => cases h
  | cons p r ih =>
    simp only [akeys, List.map_cons, List.nodup_cons] at hn
    simp only [aget]
    rcases List.mem_cons.1 h with e | hr
    · subst e; simp
    · rw [if_neg (fun e => hn.1 (by rw [e]; exact List.mem_map_of_mem (f := (·.1)) hr))]
      exact ih hn.2 hr
theorem aget_aset (l : List (κ × V)) (k k' : κ) (v : V) : aget (aset l k v) k' = if k = k' then some v else aget l k' := by
  induction l with
  | nil => simp [aset, aget]
  | cons p r ih =>
    simp only [aset]
    by_cases h : p.1 = k
    · rw [if_pos h]
      simp only [aget]
      by_cases h2 : k = k'
      · simp [h2]
      · rw [if_neg h2, if_neg h2, if_neg (by rw [h]; exact h2)]
    · rw [if_neg h]
      simp only [aget, ih]
      by_cases h2 : k = k'
      · subst h2; simp [h]
      · simp [h2]
theorem mem_akeys_aset (l : List (κ × V)) (k k' : κ) (v : V) : k' ∈ akeys (aset l k v) ↔ k' = k ∨ k' ∈ akeys l := by
  rw [← Decidable.not_iff_not, ← aget_none, aget_aset]
  by_cases h : k = k'
  · subst h; simp
  · rw [if_neg h, aget_none, not_or]
    exact ⟨fun hh => ⟨fun e => h e.symm, hh⟩, fun hh => hh.2⟩
theorem nodup_aset (l : List (κ × V)) (k : κ) (v : V) (hn : (akeys l).Nodup) : (akeys (aset l k v)).Nodup := by
  induction l with
  | nil => simp [aset, akeys]
  | cons p r ih =>
    have hn' := hn
    simp only [akeys, List.map_cons, List.nodup_cons] at hn
    simp only [aset]
    by_cases h : p.1 = k
    · rw [if_pos h]
      simp only [akeys, List.map_cons, List.nodup_cons]
      exact ⟨by rw [← h]; exact hn.1, hn.2⟩
    · rw [if_neg h]
      simp only [akeys, List.map_cons, List.nodup_cons]
      refine ⟨fun hh => ?_, ih hn.2⟩
      rcases (mem_akeys_aset r k p.1 v).1 hh with e | e
      · exact h e
      · exact hn.1 e
theorem aget_adel (l : List (κ × V)) (hn : (akeys l).Nodup) (k k' : κ) : aget (adel l k) k' = if k = k' then none else aget l k' := by
  induction l with
  | nil => simp [adel, aget]
  | cons p r ih =>
    simp only [akeys, List.map_cons, List.nodup_cons] at hn
    simp only [adel]
    by_cases h : p.1 = k
    · rw [if_pos h]
      by_cases h2 : k = k'
      · subst h2; rw [if_pos rfl, aget_none, ← h]; exact hn.1
      · rw [if_neg h2]; simp only [aget]; rw [if_neg (by rw [h]; exact h2)]
    · rw [if_neg h]
      simp only [aget, ih hn.2]
      by_cases h2 : k = k'
      · subst h2; simp [h]
      · simp [h2]
theorem nodup_adel (l : List (κ × V)) (k : κ) (hn : (akeys l).Nodup) : (akeys (adel l k)).Nodup := by
  have hs : ∀ l : List (κ × V), (akeys (adel l k)).Sublist (akeys l) := by
    intro l
    induction l with
    | nil => simp [adel]
    | cons p r ih =>
      simp only [adel]
      split
      · simp only [akeys, List.map_cons]; exact List.sublist_cons_self _ _
      · simp only [akeys, List.map_cons]; exact ih.cons_cons _
  exact (hs l).nodup hn
end plain
structure KeyLaw (P : Program) (kt : TypeId) {κ : Type} [DecidableEq κ] (K : κ → Value) : Prop where
  now : ∃ d, P.underlying kt = some d ∧ ∀ a b, Instr.sameNow d (K a) (K b) = some (decide (a = b))
  check : ∀ (e : Bool) (k : κ) (w : World), (Instr.checkKey e 10000 kt (K k)).run P w = .ok () w
  bits : ∀ k, Instr.sameBits 10000 (K k) (K k) = true
theorem keyLaw_int {P : Program} {kt : TypeId} {q : IntKind} (h : P.underlying kt = some (.int q)) : KeyLaw P kt (fun n : Int => Value.int q n) where
  now := ⟨_, h, fun a b => by
    simp only [Instr.sameNow, if_true]
    congr 1⟩
  check := fun e k w => run_checkKey h (by simp [Go.MapKept.IsKey]) e 9999
  bits := fun k => by unfold Instr.sameBits; simp
theorem keyLaw_string {P : Program} {kt : TypeId} (h : P.underlying kt = some .string) : KeyLaw P kt (fun s : ByteArray => Value.string s) where
  now := ⟨_, h, fun a b => by
    simp only [Instr.sameNow]
    congr 1
    by_cases e : a = b
    · simp [e, (bytes_beq b b).2 rfl]
    · simp only [e, decide_false]
      exact Bool.eq_false_iff.2 (fun hh => e ((bytes_beq a b).1 hh))⟩
  check := fun e k w => run_checkKey h (by simp [Go.MapKept.IsKey]) e 9999
  bits := fun k => by unfold Instr.sameBits; exact (bytes_beq k k).2 rfl
def MapIs {κ : Type} (K : κ → Value) (w : World) (b : Nat) (es : List (κ × Value)) : Prop :=
  ∃ arr clock, w.heap[b]? = some (.map arr clock) ∧ arr.toList.map (fun e => (e.key, e.val)) = es.map (fun p => (K p.1, p.2)) ∧ (es.map (·.1)).Nodup ∧
    (arr.toList.map (·.born)).Nodup ∧ (∀ e ∈ arr.toList, e.born < clock)
section
variable {κ : Type} [DecidableEq κ] {K : κ → Value} {P : Program} {kt : TypeId} {w w' : World} {b : Nat} {es : List (κ × Value)} {S : Nat → Prop}
theorem MapIs.lt (h : MapIs K w b es) : b < w.heap.size := by
  obtain ⟨arr, clock, hb, _⟩ := h
  exact (Array.getElem?_eq_some_iff.1 hb).1
theorem MapIs.chg (h : MapIs K w b es) (hc : Chg S w w') (hn : ¬ S b) : MapIs K w' b es := by
  obtain ⟨arr, clock, hb, r⟩ := h
  exact ⟨arr, clock, hc.at_ hb hn, r⟩
theorem MapIs.nodup (h : MapIs K w b es) : (akeys es).Nodup := by
  obtain ⟨_, _, _, _, h, _⟩ := h
  exact h
theorem MapIs.ne_blk (h : MapIs K w b es) {g t cs fz} (hg : w.heap[g]? = some (.cells cs t fz)) : b ≠ g := by
  obtain ⟨arr, clock, hb, _⟩ := h
  rintro rfl
  rw [hb] at hg
  cases hg
theorem MapIs.made (K : κ → Value) (w : World) : MapIs K (w.alloc (.map #[] 0)) w.heap.size ([] : List (κ × Value)) :=
  ⟨#[], 0, heap_alloc_new w _, rfl, by simp, by simp, by simp⟩
theorem MapIs.drewN (h : MapIs K w b es) (n : Nat) : MapIs K (w.drewN n) b es := h
theorem MapIs.alloc (h : MapIs K w b es) (o : Obj) : MapIs K (w.alloc o) b es := h.chg (Chg.alloc (Chg.refl No w) o) (fun h => h)
theorem findNow_is {d : TypeDesc} (hd : ∀ a b, Instr.sameNow d (K a) (K b) = some (decide (a = b))) (k : κ) : ∀ (l : List MapEntry) (es : List (κ × Value)) (i : Nat), l.map (fun e => (e.key, e.val)) = es.map (fun p => (K p.1, p.2)) →
    ∃ r, Instr.findNow d (K k) l i = some r ∧ (match r with
      | none => aget es k = none
      | some (j, v) => aget es k = some v ∧ i ≤ j ∧ j - i < l.length ∧ (∃ e, l[j - i]? = some e ∧ e.key = K k ∧ e.val = v) ∧
          (∀ v', (l.modify (j - i) fun e => { e with key := K k, val := v' }).map (fun e => (e.key, e.val)) = (aset es k v').map (fun p => (K p.1, p.2))) ∧
          (l.eraseIdx (j - i)).map (fun e => (e.key, e.val)) = (adel es k).map (fun p => (K p.1, p.2)))
  | [], [], i, _ => ⟨none, rfl, rfl⟩
  | [], _ :: _, i, h => by simp at h
  | _ :: _, [], i, h => by simp at h
  | e :: l, p :: es, i, h => by
    simp only [List.map_cons, List.cons.injEq, Prod.mk.injEq] at h
    obtain ⟨⟨hk, hv⟩, ht⟩ := h
    have hs : Instr.sameNow d (K k) e.key = some (decide (k = p.1)) := by rw [hk]; exact hd _ _
    by_cases hkp : k = p.1
    · have hs' : Instr.sameNow d (K k) e.key = some true := by rw [hs]; simp [hkp]
      refine ⟨some (i, e.val), by simp [Instr.findNow, hs'], ?_⟩
      subst hkp
      simp only [Nat.sub_self]
      refine ⟨by simp [aget, hv], Nat.le_refl _, by simp, ⟨e, by simp, hk, rfl⟩, fun v' => ?_, ?_⟩
      · simp [List.modify, aset, ht]
      · simp [adel, ht]
    · obtain ⟨r, hr, hm⟩ := findNow_is hd k l es (i + 1) ht
      refine ⟨r, by simp [Instr.findNow, hs, hkp, hr], ?_⟩
      have hpk : ¬ p.1 = k := fun e => hkp e.symm
      match r, hm with
      | none, hm => simpa [aget, hpk] using hm
      | some (j, v), ⟨h1, h2, h3, ⟨e', h4, h5, h6⟩, h7, h8⟩ =>
        have hj : j - i = (j - (i + 1)) + 1 := by omega
        refine ⟨by simpa [aget, hpk] using h1, by omega, by simp; omega, ⟨e', by rw [hj]; simpa using h4, h5, h6⟩, fun v' => ?_, ?_⟩
        · rw [hj]
          have := h7 v'
          simp only [List.modify_succ_cons, List.map_cons, aset, if_neg hpk, this, hk, hv]
        · rw [hj]
          simp only [List.eraseIdx_cons_succ, List.map_cons, adel, if_neg hpk, h8, hk, hv]
theorem findKey_is (L : KeyLaw P kt K) (k : κ) {l : List MapEntry} (h : l.map (fun e => (e.key, e.val)) = es.map (fun p => (K p.1, p.2))) :
    ∃ r, (∀ w : World, (Instr.findKey kt (K k) l).run P w = .ok r w) ∧ (match r with
      | none => aget es k = none
      | some (j, v) => aget es k = some v ∧ j < l.length ∧ (∃ e, l[j]? = some e ∧ e.key = K k ∧ e.val = v) ∧
          (∀ v', (l.modify j fun e => { e with key := K k, val := v' }).map (fun e => (e.key, e.val)) = (aset es k v').map (fun p => (K p.1, p.2))) ∧
          (l.eraseIdx j).map (fun e => (e.key, e.val)) = (adel es k).map (fun p => (K p.1, p.2))) := by
  obtain ⟨d, hd, hs⟩ := L.now
  obtain ⟨r, hr, hm⟩ := findNow_is hs k l es 0 h
  refine ⟨r, fun w => by simp [Instr.findKey, run_underlying hd, hr], ?_⟩
  match r, hm with
  | none, hm => exact hm
  | some (j, v), ⟨h1, _, h3, h4, h7, h8⟩ => exact ⟨h1, by simpa using h3, by simpa using h4, by simpa using h7, by simpa using h8⟩
theorem MapIs.lookup (h : MapIs K w b es) (L : KeyLaw P kt K) {T e : TypeId} (hT : P.underlying T = some (.map kt e)) {z : Value} (hz : (zeroValue e).run P w = .ok z w) (k : κ) (ok : Bool) :
    (Instr.lookup T (.map (some b)) (K k) ok).run P w = .ok (if ok then .tuple #[(aget es k).getD z, .bool (aget es k).isSome] else (aget es k).getD z) w := by
  obtain ⟨arr, clock, hb, hm, _⟩ := h
  obtain ⟨r, hr, hh⟩ := findKey_is L k hm
  match r, hh with
  | none, hh => simp [Instr.lookup, run_underlying hT, Go.MapKept.run_getObj_map hb, L.check, hr, hh, hz]
  | some (j, v), hh => simp [Instr.lookup, run_underlying hT, Go.MapKept.run_getObj_map hb, L.check, hr, hh.1]
theorem setBlock_self {w : World} {b : Nat} (hlt : b < w.heap.size) (o : Obj) : (setBlock w b o).heap[b]? = some o := by simp [setBlock, hlt]
theorem nodup_push {arr : Array MapEntry} {clock : Nat} (h1 : (arr.toList.map (·.born)).Nodup) (h2 : ∀ e ∈ arr.toList, e.born < clock) (key val : Value) :
    ((arr.push { key, val, born := clock }).toList.map (·.born)).Nodup ∧ ∀ e ∈ (arr.push { key, val, born := clock }).toList, e.born < clock + 1 := by
  constructor
  · simp only [Array.toList_push, List.map_append, List.map_cons, List.map_nil]
    rw [List.nodup_append]
    refine ⟨h1, by simp, ?_⟩
    intro a ha b' hb'
    simp only [List.mem_singleton] at hb'
    obtain ⟨e, he, rfl⟩ := List.mem_map.1 ha
    have := h2 e he
    omega
  · intro e he
    simp only [Array.toList_push, List.mem_append, List.mem_singleton] at he
    rcases he with he | rfl
    · have := h2 e he
      omega
    · simp
theorem aset_not_mem {V : Type} (l : List (κ × V)) (k : κ) (v : V) (h : aget l k = none) : aset l k v = l ++ [(k, v)] := by
  induction l with
  | nil => rfl
  | cons p r ih =>
    simp only [aget] at h
    split at h
    · cases h
    · rename_i hne
      simp only [aset, if_neg hne, List.cons_append, ih h]
theorem MapIs.update (h : MapIs K w b es) (L : KeyLaw P kt K) {T e : TypeId} (hT : P.underlying T = some (.map kt e)) (k : κ) (v : Value) :
    ∃ o, (Instr.mapUpdate T (.map (some b)) (K k) v).run P w = .ok () (setBlock w b o) ∧ MapIs K (setBlock w b o) b (aset es k v) := by
  obtain ⟨arr, clock, hb, hm, hn, hs1, hs2⟩ := h
  have hlt : b < w.heap.size := (Array.getElem?_eq_some_iff.1 hb).1
  obtain ⟨r, hr, hh⟩ := findKey_is L k hm
  match r, hh with
  | none, hh =>
    refine ⟨.map (arr.push { key := K k, val := v, born := clock }) (clock + 1), by simp [Instr.mapUpdate, run_underlying hT, Go.MapKept.run_getObj_map hb, L.check, hr, Go.MapKept.run_setObj_map _ hb, setBlock], _, _, setBlock_self hlt _, ?_, nodup_aset es k v hn, (nodup_push hs1 hs2 _ _).1, (nodup_push hs1 hs2 _ _).2⟩
    rw [aset_not_mem es k v hh]
    simp [hm]
  | some (j, v0), ⟨h1, h2, ⟨e0, h3, h4, h5⟩, h6, _⟩ =>
    have hkey : ((arr[j]?).map (·.key)).getD (K k) = K k := by
      have : arr[j]? = some e0 := by simpa using h3
      simp [this, h4]
    refine ⟨.map (arr.modify j fun e => { e with key := K k, val := v }) clock, by simp [Instr.mapUpdate, run_underlying hT, Go.MapKept.run_getObj_map hb, L.check, hr, Instr.keyThatStays, hkey, L.bits, Go.MapKept.run_setObj_map _ hb, setBlock], _, _, setBlock_self hlt _, ?_, nodup_aset es k v hn, ?_, ?_⟩
    · rw [← h6 v]; simp
    · have : (arr.modify j fun e => { e with key := K k, val := v }).toList.map (·.born) = arr.toList.map (·.born) := by
        apply List.ext_getElem?
        intro i
        simp only [Array.toList_modify, List.getElem?_map, List.getElem?_modify]
        cases arr.toList[i]? <;> simp
        split <;> rfl
      rw [this]; exact hs1
    · intro e he
      have hb2 : e.born ∈ (arr.modify j fun e => { e with key := K k, val := v }).toList.map (·.born) := List.mem_map_of_mem (f := (·.born)) he
      have : (arr.modify j fun e => { e with key := K k, val := v }).toList.map (·.born) = arr.toList.map (·.born) := by
        apply List.ext_getElem?
        intro i
        simp only [Array.toList_modify, List.getElem?_map, List.getElem?_modify]
        cases arr.toList[i]? <;> simp
        split <;> rfl
      rw [this] at hb2
      obtain ⟨e2, he2, hb3⟩ := List.mem_map.1 hb2
      rw [← hb3]
      exact hs2 e2 he2
theorem adel_not_mem {V : Type} (l : List (κ × V)) (k : κ) (h : aget l k = none) : adel l k = l := by
  induction l with
  | nil => rfl
  | cons p r ih =>
    simp only [aget] at h
    split at h
    · cases h
    · rename_i hne
      simp only [adel, if_neg hne, ih h]
theorem MapIs.delete (h : MapIs K w b es) (L : KeyLaw P kt K) {T e ty kt' : TypeId} (hT : P.underlying T = some (.map kt e)) (k : κ) :
    ∃ o, (Builtin.delete_ #[T, kt'] ty #[.map (some b), K k]).run P w = .ok (.tuple #[]) (setBlock w b o) ∧ MapIs K (setBlock w b o) b (adel es k) := by
  obtain ⟨arr, clock, hb, hm, hn, hs1, hs2⟩ := h
  have hlt : b < w.heap.size := (Array.getElem?_eq_some_iff.1 hb).1
  obtain ⟨r, hr, hh⟩ := findKey_is L k hm
  match r, hh with
  | none, hh =>
    refine ⟨.map arr clock, by simp [Builtin.delete_, run_underlying hT, Go.MapKept.run_getObj_map hb, L.check, hr, Go.MapKept.run_setObj_map _ hb, setBlock], _, _, setBlock_self hlt _, ?_, nodup_adel es k hn, hs1, hs2⟩
    rw [adel_not_mem es k hh]; exact hm
  | some (j, v0), ⟨h1, h2, _, _, h6⟩ =>
    refine ⟨.map (arr.eraseIdxIfInBounds j) clock, by simp [Builtin.delete_, run_underlying hT, Go.MapKept.run_getObj_map hb, L.check, hr, Go.MapKept.run_setObj_map _ hb, setBlock], _, _, setBlock_self hlt _, ?_, nodup_adel es k hn, ?_, ?_⟩
    · rw [← h6]; simp
    · refine List.Sublist.nodup (List.Sublist.map _ ?_) hs1
      simp [List.eraseIdx_sublist]
    · intro e he
      refine hs2 e ?_
      have : (arr.eraseIdxIfInBounds j).toList.Sublist arr.toList := by simp [List.eraseIdx_sublist]
      exact this.subset he
theorem MapIs.clear (h : MapIs K w b es) {T ty kt e : TypeId} (hT : P.underlying T = some (.map kt e)) :
    ∃ o, (Builtin.clear_ #[T] ty #[.map (some b)]).run P w = .ok (.tuple #[]) (setBlock w b o) ∧ MapIs K (setBlock w b o) b [] := by
  obtain ⟨arr, clock, hb, hm, hn, hs1, hs2⟩ := h
  have hlt : b < w.heap.size := (Array.getElem?_eq_some_iff.1 hb).1
  exact ⟨.map #[] clock, by simp [Builtin.clear_, run_underlying hT, Go.MapKept.run_getObj_map hb, Go.MapKept.run_setObj_map _ hb, setBlock], _, _, setBlock_self hlt _, rfl, by simp, by simp, by simp⟩
end
end Go.Proofs.YtplpbbdakihnfaaGreat
end

section
open Go.RowKit
namespace Go.Proofs.YtplpbbdakihnfaaGreat
inductive Pg where
  | blank
  | torn
  | full (b : List UInt8)
def Pg.err : Pg → Int
  | .blank => 5
  | .torn => 6
  | .full _ => 0
def Pg.data : Pg → List UInt8
  | .full b => b
  | _ => []
structure Dev where
  n : Nat
  fl : Nat → Pg
  wt : Nat → Option Pg
  off : Bool
  armed : Int
  losses : Int
namespace Dev
def new (n : Nat) : Dev := { n, fl := fun _ => .blank, wt := fun _ => none, off := false, armed := 0, losses := 0 }
def more (l : Int) : Int := wrap64 (l + 1)
def spent (D : Dev) : Bool := !D.off && !(D.armed == 1)
def spend (D : Dev) : Dev :=
  if D.off then D
  else if D.armed = 1 then { D with armed := 0, off := true, losses := more D.losses }
  else if 0 < D.armed then { D with armed := D.armed - 1 }
  else D
def put (D : Dev) (k : Nat) (p : Pg) : Dev := { D with wt := fun i => if i = k then some p else D.wt i }
def change (D : Dev) (k : Nat) (p : Pg) : Dev := if D.spent then D.spend.put k p else D.spend
def changeE (D : Dev) : Int := if D.spent then 0 else 4
def pad (b : List UInt8) : List UInt8 := b ++ List.replicate (384 - b.length) 0
def settled (D : Dev) : Dev := { D with fl := fun i => (D.wt i).getD (D.fl i), wt := fun _ => none }
def flush (D : Dev) : Dev := if D.spent then D.spend.settled else D.spend
def page (D : Dev) (k : Nat) : Pg := (D.wt k).getD (D.fl k)
def has (D : Dev) (k : Int) : Bool := decide (0 ≤ k) && decide (k < D.n)
def writeE (D : Dev) (k : Int) (len : Nat) : Int := if D.has k && decide (len ≤ 384) then D.changeE else 1
def write (D : Dev) (k : Int) (b : List UInt8) : Dev := if D.has k && decide (b.length ≤ 384) then D.change k.toNat (.full (pad b)) else D
def readE (D : Dev) (k : Int) : Int := if D.has k then (if D.off then 4 else (D.page k.toNat).err) else 1
def read (D : Dev) (k : Int) : List UInt8 := if D.has k then (if D.off then [] else (D.page k.toNat).data) else []
def arm (D : Dev) (n : Int) : Dev := { D with armed := if 0 ≤ n then n else 0 }
def waiting (D : Dev) : List Nat := (List.range D.n).filter fun i => (D.wt i).isSome
def rank (D : Dev) (k : Nat) : Nat := ((List.range k).filter fun i => (D.wt i).isSome).length
def fate (was now : Pg) (pick : Option UInt8) : Pg := match pick with
  | none => was
  | some c => if c.toNat % 3 = 0 then was else if c.toNat % 3 = 1 then now else .torn
def settle (D : Dev) (picks : List UInt8) : Dev :=
  { D with fl := fun i => match D.wt i with | none => D.fl i | some p => fate (D.fl i) p picks[D.rank i]?, wt := fun _ => none, losses := more D.losses }
def crash (D : Dev) (picks : List UInt8) : Dev := { D.settle picks with off := true }
def on (D : Dev) : Dev := { D.settle [] with off := false, armed := 0 }
end Dev
end Go.Proofs.YtplpbbdakihnfaaGreat
end

section
namespace Go.Proofs.YtplpbbdakihnfaaGreat
open Go.RowKit
open Go.ChangeMaps (setBlock)
abbrev tDev : TypeId := 78
abbrev tPage : TypeId := 151
abbrev tPP : TypeId := 142
abbrev tU8 : TypeId := 5
def bys (b : List UInt8) : List Value := b.map fun x => .int .u8 x.toNat
theorem bys_length (b : List UInt8) : (bys b).length = b.length := by simp [bys]
theorem bys_get {b : List UInt8} {j : Nat} {u : Value} (h : (bys b)[j]? = some u) : ∃ x, b[j]? = some x ∧ u = .int .u8 x.toNat := by
  simp only [bys, List.getElem?_map] at h
  cases hb : b[j]? with
  | none => rw [hb] at h; cases h
  | some x => rw [hb] at h; exact ⟨x, rfl, by simpa using h.symm⟩
theorem bys_append (a b : List UInt8) : bys (a ++ b) = bys a ++ bys b := by simp [bys]
theorem bys_take (a : List UInt8) (n : Nat) : bys (a.take n) = (bys a).take n := by simp [bys, List.map_take]
theorem bys_drop (a : List UInt8) (n : Nat) : bys (a.drop n) = (bys a).drop n := by simp [bys, List.map_drop]
structure DevH where
  d : Nat
  F : Nat
  M : Nat
def DevH.foot (h : DevH) : Nat → Prop := fun k => k = h.d ∨ k = h.F ∨ k = h.M
def PgAt (N : Nat) (w : World) (v : Value) : Pg → Prop
  | .blank => v = .pointer none
  | .torn => ∃ p, p < N ∧ v = .pointer (some ⟨p, 0, none⟩) ∧ Blk w p tPage #[.slice none 0 0, .bool true]
  | .full b => ∃ p q, p < N ∧ q < N ∧ v = .pointer (some ⟨p, 0, none⟩) ∧ Blk w p tPage #[.slice (some ⟨q, 0, none⟩) 384 384, .bool false] ∧ Blk w q tU8 (bys b).toArray ∧ b.length = 384
theorem PgAt.mono {N N' : Nat} {w : World} {v : Value} {p : Pg} (h : PgAt N w v p) (hN : N ≤ N') : PgAt N' w v p := by
  cases p with
  | blank => exact h
  | torn => obtain ⟨p, hp, r⟩ := h; exact ⟨p, by omega, r⟩
  | full b => obtain ⟨p, q, hp, hq, r⟩ := h; exact ⟨p, q, by omega, by omega, r⟩
theorem PgAt.chg {S : Nat → Prop} {N : Nat} {w w' : World} {v : Value} {p : Pg} (h : PgAt N w v p) (hc : Chg S w w')
    (hn : ∀ g cs t, g < N → (t = tPage ∨ t = tU8) → Blk w g t cs → ¬ S g) : PgAt N w' v p := by
  cases p with
  | blank => exact h
  | torn => obtain ⟨p, hp, hv, hb⟩ := h; exact ⟨p, hp, hv, hb.chg hc (hn _ _ _ hp (.inl rfl) hb)⟩
  | full b =>
    obtain ⟨p, q, hp, hq, hv, hb, hb2, hl⟩ := h
    exact ⟨p, q, hp, hq, hv, hb.chg hc (hn _ _ _ hp (.inl rfl) hb), hb2.chg hc (hn _ _ _ hq (.inr rfl) hb2), hl⟩
abbrev ikey : Int → Value := fun n => .int .i64 n
def RowAt (N : Nat) (w : World) (ps : List Value) (n : Nat) (fl : Nat → Pg) : Prop :=
  ps.length = n ∧ ∀ i v, ps[i]? = some v → PgAt N w v (fl i)
def WaitAt (N : Nat) (w : World) (es : List (Int × Value)) (n : Nat) (wt : Nat → Option Pg) : Prop :=
  (∀ k v, (k, v) ∈ es → ∃ i pg, k = ((i : Nat) : Int) ∧ i < n ∧ wt i = some pg ∧ PgAt N w v pg) ∧ ∀ i pg, wt i = some pg → ∃ v, aget es (i : Int) = some v
structure DevN (N : Nat) (w : World) (h : DevH) (D : Dev) : Prop where
  box : ∃ a b c e, Blk w h.d tDev #[.slice (some ⟨h.F, 0, none⟩) D.n D.n, .map (some h.M), .bool D.off, .int .i64 D.armed, .int .i64 D.losses, .int .i64 a, .int .i64 b, .int .i64 c, .int .i64 e]
  row : ∃ ps, Blk w h.F tPP ps.toArray ∧ RowAt N w ps D.n D.fl
  map : ∃ es, MapIs ikey w h.M es ∧ WaitAt N w es D.n D.wt
  npos : 1 ≤ D.n
  nmost : D.n ≤ 4096
  armed : 0 ≤ D.armed ∧ D.armed ≤ 9223372036854775807
  below : N ≤ w.heap.size
def DevAt (w : World) (h : DevH) (D : Dev) : Prop := DevN w.heap.size w h D
theorem DevN.mono {N N' : Nat} {w : World} {h : DevH} {D : Dev} (hd : DevN N w h D) (hN : N ≤ N') (hb : N' ≤ w.heap.size) : DevN N' w h D :=
  { hd with
    row := by obtain ⟨ps, h1, h2, h3⟩ := hd.row; exact ⟨ps, h1, h2, fun i v hv => (h3 i v hv).mono hN⟩
    map := by
      obtain ⟨es, h1, h2, h3⟩ := hd.map
      refine ⟨es, h1, fun k v hk => ?_, h3⟩
      obtain ⟨i, pg, e1, e2, e3, e4⟩ := h2 k v hk
      exact ⟨i, pg, e1, e2, e3, e4.mono hN⟩
    below := hb }
theorem DevN.at_ {N : Nat} {w : World} {h : DevH} {D : Dev} (hd : DevN N w h D) : DevAt w h D := hd.mono hd.below (Nat.le_refl _)
theorem DevN.not_foot {N : Nat} {w : World} {h : DevH} {D : Dev} (hd : DevN N w h D) {g : Nat} {cs : Array Value} {t : TypeId} {fz : Nat × Nat} (hg : w.heap[g]? = some (.cells cs t fz)) (h1 : t ≠ tDev) (h2 : t ≠ tPP) : ¬ h.foot g := by
  rintro (rfl | rfl | rfl)
  · obtain ⟨a, b, c, e, hb⟩ := hd.box
    unfold Blk at hb
    rw [hg] at hb
    cases hb
    exact h1 rfl
  · obtain ⟨ps, hb, _⟩ := hd.row
    unfold Blk at hb
    rw [hg] at hb
    cases hb
    exact h2 rfl
  · obtain ⟨es, hm, _⟩ := hd.map
    exact hm.ne_blk hg rfl
theorem DevN.chg {S : Nat → Prop} {N : Nat} {w w' : World} {h : DevH} {D : Dev} (hd : DevN N w h D) (hc : Chg S w w') (h1 : ¬ S h.d) (h2 : ¬ S h.F) (h3 : ¬ S h.M)
    (hn : ∀ g cs t, g < N → (t = tPage ∨ t = tU8) → Blk w g t cs → ¬ S g) : DevN N w' h D :=
  { hd with
    box := by obtain ⟨a, b, c, e, hb⟩ := hd.box; exact ⟨a, b, c, e, hb.chg hc h1⟩
    row := by obtain ⟨ps, g1, g2, g3⟩ := hd.row; exact ⟨ps, g1.chg hc h2, g2, fun i v hv => (g3 i v hv).chg hc hn⟩
    map := by
      obtain ⟨es, g1, g2, g3⟩ := hd.map
      refine ⟨es, g1.chg hc h3, fun k v hk => ?_, g3⟩
      obtain ⟨i, pg, e1, e2, e3, e4⟩ := g2 k v hk
      exact ⟨i, pg, e1, e2, e3, e4.chg hc hn⟩
    below := Nat.le_trans hd.below hc.size }
theorem DevN.chgNo {N : Nat} {w w' : World} {h : DevH} {D : Dev} (hd : DevN N w h D) (hc : Chg No w w') : DevN N w' h D := hd.chg hc (fun h => h) (fun h => h) (fun h => h) (fun _ _ _ _ _ _ h => h)
theorem DevAt.chgNo {w w' : World} {h : DevH} {D : Dev} (hd : DevAt w h D) (hc : Chg No w w') : DevAt w' h D := (DevN.chgNo hd hc).at_
theorem DevN.step {N : Nat} {w w' : World} {h : DevH} {D D' : Dev} (hd : DevN N w h D) (hc : Chg h.foot w w') (hn : D'.n = D.n)
    (box : ∃ a b c e, Blk w' h.d tDev #[.slice (some ⟨h.F, 0, none⟩) D'.n D'.n, .map (some h.M), .bool D'.off, .int .i64 D'.armed, .int .i64 D'.losses, .int .i64 a, .int .i64 b, .int .i64 c, .int .i64 e])
    (row : (∃ ps, Blk w' h.F tPP ps.toArray ∧ RowAt w'.heap.size w' ps D'.n D'.fl) ∨ (D'.fl = D.fl ∧ w'.heap[h.F]? = w.heap[h.F]?))
    (map : (∃ es, MapIs ikey w' h.M es ∧ WaitAt w'.heap.size w' es D'.n D'.wt) ∨ (D'.wt = D.wt ∧ w'.heap[h.M]? = w.heap[h.M]?))
    (armed : 0 ≤ D'.armed ∧ D'.armed ≤ 9223372036854775807) : DevAt w' h D' := by
  have hkeep : ∀ g cs t, g < N → (t = tPage ∨ t = tU8) → Blk w g t cs → ¬ h.foot g := fun g cs t _ ht hb => by
    refine hd.not_foot hb ?_ ?_ <;> rcases ht with rfl | rfl <;> decide
  have hNN : N ≤ w'.heap.size := Nat.le_trans hd.below hc.size
  refine { box := box, row := ?_, map := ?_, npos := by rw [hn]; exact hd.npos, nmost := by rw [hn]; exact hd.nmost, armed := armed, below := Nat.le_refl _ }
  · rcases row with r | ⟨e, r⟩
    · exact r
    · obtain ⟨ps, g1, g2, g3⟩ := hd.row
      exact ⟨ps, by unfold Blk at g1 ⊢; rw [r]; exact g1, by rw [hn]; exact g2, fun i v hv => by rw [e]; exact ((g3 i v hv).chg hc hkeep).mono hNN⟩
  · rcases map with r | ⟨e, r⟩
    · exact r
    · obtain ⟨es, g1, g2, g3⟩ := hd.map
      refine ⟨es, ?_, ?_, ?_⟩
      · obtain ⟨arr, clock, hb, rest⟩ := g1
        exact ⟨arr, clock, by rw [r]; exact hb, rest⟩
      · rw [e, hn]
        intro k v hk
        obtain ⟨i, pg, e1, e2, e3, e4⟩ := g2 k v hk
        exact ⟨i, pg, e1, e2, e3, (e4.chg hc hkeep).mono hNN⟩
      · rw [e]; exact g3
end Go.Proofs.YtplpbbdakihnfaaGreat
end

section
namespace Go.Proofs.YtplpbbdakihnfaaGreat
open Go.RowKit
open Go.ChangeMaps (setBlock)
section
variable {N : Nat} {w : World} {h : DevH} {D : Dev}
theorem has_calls (hd : DevN N w h D) (k : Int) :
    Calls Tryz.prog 90 #[.pointer (some ⟨h.d, 0, none⟩), .int .i64 k] w fun e w' => e = .returned (.bool (D.has k)) ∧ w = w' := by
  obtain ⟨a, b, c, e, hb⟩ := hd.box
  have h0 := hb.cell 0
  simp at h0
  have hn := hd.nmost
  by_cases c1 : 0 ≤ k
  · by_cases c2 : k < D.n
    · have hv : D.has k = true := by simp [Dev.has, c1, c2]
      rw [hv]; clear hv
      go_enter Tryz.func90, Tryz.ntmps90
      go_wp2
      go_ret
      exact ⟨rfl, rfl⟩
    · have hv : D.has k = false := by simp [Dev.has, c2]
      rw [hv]; clear hv
      go_enter Tryz.func90, Tryz.ntmps90
      go_wp2
      go_ret
      exact ⟨rfl, rfl⟩
  · have hv : D.has k = false := by simp [Dev.has, c1]
    rw [hv]; clear hv
    go_enter Tryz.func90, Tryz.ntmps90
    go_wp2
    go_ret
    exact ⟨rfl, rfl⟩
theorem pages_calls (hd : DevN N w h D) :
    Calls Tryz.prog 33 #[.pointer (some ⟨h.d, 0, none⟩)] w fun e w' => e = .returned (.int .i64 D.n) ∧ w = w' := by
  obtain ⟨a, b, c, e, hb⟩ := hd.box
  have h0 := hb.cell 0
  simp at h0
  go_enter Tryz.func33, Tryz.ntmps33
  go_wp2
  go_ret
  exact ⟨rfl, rfl⟩
theorem losses_calls (hd : DevN N w h D) :
    Calls Tryz.prog 35 #[.pointer (some ⟨h.d, 0, none⟩)] w fun e w' => e = .returned (.int .i64 D.losses) ∧ w = w' := by
  obtain ⟨a, b, c, e, hb⟩ := hd.box
  have h0 := hb.cell 4
  simp at h0
  go_enter Tryz.func35, Tryz.ntmps35
  go_wp2
  go_ret
  exact ⟨rfl, rfl⟩
theorem power_calls (hd : DevN N w h D) :
    Calls Tryz.prog 34 #[.pointer (some ⟨h.d, 0, none⟩)] w fun e w' => e = .returned (.bool (!D.off)) ∧ w = w' := by
  obtain ⟨a, b, c, e, hb⟩ := hd.box
  have h0 := hb.cell 2
  simp at h0
  go_enter Tryz.func34, Tryz.ntmps34
  go_wp2
  go_ret
  exact ⟨rfl, rfl⟩
theorem arm_calls (hd : DevN N w h D) (n : Int) (hn : n ≤ 9223372036854775807) :
    Calls Tryz.prog 29 #[.pointer (some ⟨h.d, 0, none⟩), .int .i64 n] w fun e w' => e = .returned (.tuple #[]) ∧ DevAt w' h (D.arm n) ∧ Chg h.foot w w' := by
  obtain ⟨a, b, c, e, hb⟩ := hd.box
  have h3 := hb.cell 3
  simp at h3
  have f3 := hb.frozen 3
  have fin : ∀ m : Int, m = (if 0 ≤ n then n else 0) → DevAt (w.setCell ⟨h.d, 3, none⟩ (.int .i64 m)) h (D.arm n) ∧ Chg h.foot w (w.setCell ⟨h.d, 3, none⟩ (.int .i64 m)) := by
    intro m hm
    have hc : Chg h.foot w (w.setCell ⟨h.d, 3, none⟩ (.int .i64 m)) := by (repeat (first | (with_reducible exact Chg.refl _ _) | (with_reducible assumption) | (with_reducible refine Chg.drewN ?_ _) | (with_reducible refine Chg.drew ?_) | (with_reducible refine Chg.alloc ?_ _) | (with_reducible refine Chg.setCell ?_ (by first | (left; simp [DevH.foot]; done) | (right; simp; done) | (right; simp; omega)) _)))
    refine ⟨hd.step hc rfl ⟨a, b, c, e, ?_⟩ (.inr ⟨rfl, ?_⟩) (.inr ⟨rfl, ?_⟩) ?_, hc⟩
    · have := hb.set_ 3 (.int .i64 m)
      simpa [Dev.arm, hm] using this
    · exact Below.heap_setCell _ _ _ _ (by obtain ⟨ps, g, _⟩ := hd.row; exact (g.ne_ hb (by decide)))
    · exact Below.heap_setCell _ _ _ _ (by obtain ⟨es, g, _⟩ := hd.map; exact (g.ne_blk hb))
    · simp only [Dev.arm]; split <;> omega
  have F := Lib.hid fin
  clear fin
  by_cases c1 : 0 ≤ n
  · go_enter Tryz.func29, Tryz.ntmps29
    go_wp2
    go_end0
    exact ⟨rfl, F.out _ (by rw [if_pos c1]; try omega)⟩
  · go_enter Tryz.func29, Tryz.ntmps29
    go_wp2
    go_end0
    exact ⟨rfl, F.out _ (by rw [if_neg (by omega)])⟩
theorem spend_calls (hd : DevN N w h D) :
    Calls Tryz.prog 75 #[.pointer (some ⟨h.d, 0, none⟩)] w fun e w' => e = .returned (.bool D.spent) ∧ DevAt w' h D.spend ∧ Chg h.foot w w' := by
  obtain ⟨a, b, c, e, hb⟩ := hd.box
  obtain ⟨ha0, ha1⟩ := hd.armed
  have nF : h.F ≠ h.d := by obtain ⟨ps, g, _⟩ := hd.row; exact (g.ne_ hb (by decide))
  have nM : h.M ≠ h.d := by obtain ⟨es, g, _⟩ := hd.map; exact (g.ne_blk hb)
  have h2 := hb.cell 2
  have h3 := hb.cell 3
  have h4 := hb.cell 4
  simp at h2 h3 h4
  have f2 := hb.frozen 2
  have f3 := hb.frozen 3
  have f4 := hb.frozen 4
  by_cases c0 : D.off = true
  · have hs : D.spend = D := by simp [Dev.spend, c0]
    have hv : D.spent = false := by simp [Dev.spent, c0]
    rw [hs, hv]
    rw [c0] at h2
    clear hs hv c0
    have HD := Lib.hid hd.at_
    clear hd hb
    go_enter Tryz.func75, Tryz.ntmps75
    go_wp2
    go_ret
    exact ⟨rfl, HD.out, Chg.refl _ _⟩
  · have c0' : D.off = false := by simpa using c0
    rw [c0'] at h2
    by_cases c1 : D.armed = 1
    · have hs : D.spend = { D with armed := 0, off := true, losses := Dev.more D.losses } := by simp [Dev.spend, c0, c1]
      have hv : D.spent = false := by simp [Dev.spent, c1]
      rw [c1] at h3
      have fin : DevAt (((w.setCell ⟨h.d, 3, none⟩ (.int .i64 0)).setCell ⟨h.d, 2, none⟩ (.bool true)).setCell ⟨h.d, 4, none⟩ (.int .i64 (wrap64 (D.losses + 1)))) h D.spend ∧ Chg h.foot w (((w.setCell ⟨h.d, 3, none⟩ (.int .i64 0)).setCell ⟨h.d, 2, none⟩ (.bool true)).setCell ⟨h.d, 4, none⟩ (.int .i64 (wrap64 (D.losses + 1)))) := by
        have hc : Chg h.foot w (((w.setCell ⟨h.d, 3, none⟩ (.int .i64 0)).setCell ⟨h.d, 2, none⟩ (.bool true)).setCell ⟨h.d, 4, none⟩ (.int .i64 (wrap64 (D.losses + 1)))) := by (repeat (first | (with_reducible exact Chg.refl _ _) | (with_reducible assumption) | (with_reducible refine Chg.drewN ?_ _) | (with_reducible refine Chg.drew ?_) | (with_reducible refine Chg.alloc ?_ _) | (with_reducible refine Chg.setCell ?_ (by first | (left; simp [DevH.foot]; done) | (right; simp; done) | (right; simp; omega)) _)))
        refine ⟨?_, hc⟩
        rw [hs]
        refine hd.step hc rfl ⟨a, b, c, e, ?_⟩ (.inr ⟨rfl, ?_⟩) (.inr ⟨rfl, ?_⟩) (by simp)
        · have := ((hb.set_ 3 (.int .i64 0)).set_ 2 (.bool true)).set_ 4 (.int .i64 (wrap64 (D.losses + 1)))
          simpa [Dev.more] using this
        · rw [Below.heap_setCell _ _ _ _ nF, Below.heap_setCell _ _ _ _ nF, Below.heap_setCell _ _ _ _ nF]
        · rw [Below.heap_setCell _ _ _ _ nM, Below.heap_setCell _ _ _ _ nM, Below.heap_setCell _ _ _ _ nM]
      rw [hv]
      have F := Lib.hid fin
      clear fin hs hv c0 c0' c1 hd hb
      go_enter Tryz.func75, Tryz.ntmps75
      go_wp2
      go_ret
      exact ⟨rfl, F.out⟩
    · have hv : D.spent = true := by simp [Dev.spent, c0', c1]
      by_cases c2 : 0 < D.armed
      · have hs : D.spend = { D with armed := D.armed - 1 } := by simp [Dev.spend, c0, c1, c2]
        have fin : DevAt (w.setCell ⟨h.d, 3, none⟩ (.int .i64 (D.armed - 1))) h D.spend ∧ Chg h.foot w (w.setCell ⟨h.d, 3, none⟩ (.int .i64 (D.armed - 1))) := by
          have hc : Chg h.foot w (w.setCell ⟨h.d, 3, none⟩ (.int .i64 (D.armed - 1))) := by (repeat (first | (with_reducible exact Chg.refl _ _) | (with_reducible assumption) | (with_reducible refine Chg.drewN ?_ _) | (with_reducible refine Chg.drew ?_) | (with_reducible refine Chg.alloc ?_ _) | (with_reducible refine Chg.setCell ?_ (by first | (left; simp [DevH.foot]; done) | (right; simp; done) | (right; simp; omega)) _)))
          refine ⟨?_, hc⟩
          rw [hs]
          refine hd.step hc rfl ⟨a, b, c, e, ?_⟩ (.inr ⟨rfl, ?_⟩) (.inr ⟨rfl, ?_⟩) (by simp; omega)
          · have := (hb.set_ 3 (.int .i64 (D.armed - 1)))
            simpa using this
          · rw [Below.heap_setCell _ _ _ _ nF]
          · rw [Below.heap_setCell _ _ _ _ nM]
        have c3 : (D.armed - 1 == 0) = false := by simp; omega
        rw [hv]
        have F := Lib.hid fin
        clear fin hs hv c0 c0' hd hb
        go_enter Tryz.func75, Tryz.ntmps75
        go_wp2
        go_ret
        exact ⟨rfl, F.out⟩
      · have hs : D.spend = D := by simp [Dev.spend, c1, c2]
        rw [hs, hv]
        have HD := Lib.hid hd.at_
        clear hs hv c0 c0' hd hb
        go_enter Tryz.func75, Tryz.ntmps75
        go_wp2
        go_ret
        exact ⟨rfl, HD.out, Chg.refl _ _⟩
end
end Go.Proofs.YtplpbbdakihnfaaGreat
end

section
namespace Go.Proofs.YtplpbbdakihnfaaGreat
open Go.RowKit
def TI (P : Program) (e : TypeId) (z : Value) (size bytes : Nat) : Prop := (P.info? e).map (fun i => (i.zero, i.size, i.bytes)) = some (some z, size, bytes)
section
variable {P : Program} (w : World)
theorem run_append_nilsrc (base : Nat) (t ty e : TypeId) {z : Value} {size bytes : Nat} (ht : P.underlying t = some (.slice e)) (hi : TI P e z size bytes)
    (v : Value) (n : Nat) (xs : List Value) (hown : w.ownsRow base e size v n xs) (c : Nat) : (Builtin.append_ #[t, t] ty #[v, .slice none 0 c]).run P w = .ok v w := by
  obtain ⟨i, hi, _, _, _⟩ := info_parts hi
  rcases hown.2 with ⟨rfl, rfl⟩ | ⟨g, cap, cur, rfl, _, _, hnc, _⟩
  · simp [Builtin.append_, run_underlying ht, sizeOf, typeInfo, hi, Builtin.lenOf, Builtin.firstCells]
  · simp [Builtin.append_, run_underlying ht, sizeOf, typeInfo, hi, Builtin.lenOf, Builtin.firstCells, hnc, storeCells]
theorem run_app (base : Nat) (t ty e : TypeId) {z : Value} {size bytes : Nat} (ht : P.underlying t = some (.slice e)) (hi : TI P e z size bytes) (hzs : z.cells.size = size) (hsz : 0 < size)
    (v : Value) (n : Nat) (xs : List Value) (hown : w.ownsRow base e size v n xs)
    (te : TypeId) (A : Option Addr) (m c : Nat) (news : List Value) (hr : Rd w te A (m * size) news) (h1 : ∀ u ∈ news, u.oneCell' = true)
    (h63 : n + m ≤ maxLen) (hbytes : (n + m) * bytes ≤ 140737488355328) (hbase : base ≤ w.heap.size) :
    ∃ v' w', (Builtin.append_ #[t, t] ty #[v, .slice A m c]).run P w = .ok v' w' ∧ w'.ownsRow base e size v' (n + m) (xs ++ news) ∧ w.grownBy w' v.ownBlock ∧
      (v'.ownBlock = v.ownBlock ∨ v'.ownBlock = some w.heap.size) := by
  obtain ⟨i, hi', hz', hsize, hby⟩ := info_parts hi
  rcases A with _ | ad
  · have hm : m = 0 := by
      rcases Nat.eq_zero_or_pos m with h0 | h0
      · exact h0
      · obtain ⟨g, off, cur, fz, h, _⟩ := hr.2 (Nat.mul_pos h0 hsz)
        cases h
    subst hm
    have hn : news = [] := List.eq_nil_of_length_eq_zero (by simpa using hr.1)
    subst hn
    exact ⟨v, w, run_append_nilsrc w base t ty e ht hi v n xs hown c, by simpa using hown, World.grownBy.refl w _, .inl rfl⟩
  · have hcells : ∀ j u, news[j]? = some u → w.cell? (ad.add j) = some u := by
      intro j u hu
      have hj : j < m * size := by rw [← hr.1]; exact (List.getElem?_eq_some_iff.1 hu).1
      obtain ⟨g, off, cur, fz, h, hg, hx⟩ := hr.2 (by omega)
      injection h with h
      subst h
      have hadd : (⟨g, off, none⟩ : Addr).add j = ⟨g, off + j, none⟩ := by unfold Addr.add; split <;> simp_all
      rw [hadd, cell_of_row w g _ cur te fz hg]
      exact hx j u hu
    obtain ⟨v', w', hrun, h2, h3, _, h5⟩ := run_append_own_at (P := P) w base t ty e i z size bytes ht hi' hz' hsize hby hzs hsz v n xs hown ad m c news hr.1 hcells h1 h63 hbytes hbase
    exact ⟨v', w', hrun, h2, h3, h5⟩
theorem wpList_app {ops : Array Oper} {rest : List Oper} {o : Oper} {a : Act} {Q : Exit → Act → World → Prop} (hgd : o.guard = none) (s x : Operand) (t : TypeId)
    (ho : o.op = .call { callee := .builtin .append, args := #[s, x], argTypes := #[t, t] })
    (e : TypeId) {z : Value} {size bytes : Nat} (ht : P.underlying t = some (.slice e)) (hi : TI P e z size bytes) (hzs : z.cells.size = size) (hsz : 0 < size)
    (base : Nat) (v : Value) (n : Nat) (xs : List Value) (hs : a.eval s = v) (hown : w.ownsRow base e size v n xs)
    (te : TypeId) (A : Option Addr) (m c : Nat) (news : List Value) (hx : a.eval x = .slice A m c) (hr : Rd w te A (m * size) news) (h1 : ∀ u ∈ news, u.oneCell' = true)
    (h63 : n + m ≤ maxLen) (hbytes : (n + m) * bytes ≤ 140737488355328) (hbase : base ≤ w.heap.size)
    (h : ∀ v' w', w'.ownsRow base e size v' (n + m) (xs ++ news) → w.grownBy w' v.ownBlock → (v'.ownBlock = v.ownBlock ∨ v'.ownBlock = some w.heap.size) → wpList P ops Q rest (a.put o.dst v') w') :
    wpList P ops Q (o :: rest) a w := by
  refine wpList_plain hgd fun K hK => ?_
  obtain ⟨v', w', hrun, h2, h3, h4⟩ := run_app (P := P) w base t o.type e ht hi hzs hsz v n xs hown te A m c news hr h1 h63 hbytes hbase
  unfold Oper.wp execOp
  simp only [ho, resolve, invoke, builtin, Sem.run_bind, Sem.run_pure, Result.andThen_ok, List.map_toArray, List.map_cons, List.map_nil, hs, hx, hrun]
  exact hK _ _ (h v' w' h2 h3 h4)
end
theorem step_app {P : Program} (w : World) {ops : Array Oper} {o : Oper} {a : Act} {K : Act → World → Prop} {Q : Exit → Act → World → Prop} {E : Prop} (hgd : o.guard = none) (s x : Operand) (t : TypeId)
    (ho : o.op = .call { callee := .builtin .append, args := #[s, x], argTypes := #[t, t] })
    (e : TypeId) {z : Value} {size bytes : Nat} (ht : P.underlying t = some (.slice e)) (hi : TI P e z size bytes) (hzs : z.cells.size = size) (hsz : 0 < size)
    (base : Nat) (v : Value) (n : Nat) (xs : List Value) (hs : a.eval s = v) (hown : w.ownsRow base e size v n xs)
    (te : TypeId) (A : Option Addr) (m c : Nat) (news : List Value) (hx : a.eval x = .slice A m c) (hr : Rd w te A (m * size) news) (h1 : ∀ u ∈ news, u.oneCell' = true)
    (h63 : n + m ≤ maxLen) (hbytes : (n + m) * bytes ≤ 140737488355328) (hbase : base ≤ w.heap.size)
    (h : ∀ v' w', w'.ownsRow base e size v' (n + m) (xs ++ news) → w.grownBy w' v.ownBlock → (v'.ownBlock = v.ownBlock ∨ v'.ownBlock = some w.heap.size) → K (a.put o.dst v') w') :
    if Region.wanted o (yielded ops a.tmps) = true then Oper.wp P o a w K Q else E := by
  have hw : Region.wanted o (yielded ops a.tmps) = true := by simp [Region.wanted, hgd]
  rw [if_pos hw]
  obtain ⟨v', w', hrun, h2, h3, h4⟩ := run_app (P := P) w base t o.type e ht hi hzs hsz v n xs hown te A m c news hr h1 h63 hbytes hbase
  unfold Oper.wp execOp
  simp only [ho, resolve, invoke, builtin, Sem.run_bind, Sem.run_pure, Result.andThen_ok, List.map_toArray, List.map_cons, List.map_nil, hs, hx, hrun]
  exact h v' w' h2 h3 h4
section
variable {P : Program}
def mk (n : Nat) (z : Value) : Array Value := (List.replicate n z).toArray
theorem mk_size (n : Nat) (z : Value) : (mk n z).size = n := by simp [mk]
theorem mk_toList (n : Nat) (z : Value) : (mk n z).toList = List.replicate n z := by simp [mk]
theorem run_mk (W : World) {t e : TypeId} {z : Value} {bytes : Nat} (ht : P.underlying t = some (.slice e)) (hi : TI P e z 1 bytes) (hz1 : z.cells = #[z]) (n : Nat) (hb : bytes * n ≤ 281474976710656) (h63 : n ≤ 9223372036854775807) :
    (Instr.makeSlice t (.int .i64 n) (.int .i64 n)).run P W = .ok (.slice (some ⟨W.heap.size, 0, none⟩) n n) (W.alloc (.cells (mk n z) e)) := by
  obtain ⟨i, hi', hz, hs, hby⟩ := info_parts hi
  have hb' : (i.bytes : Int) * (n : Int) ≤ 281474976710656 := by rw [hby, ← Int.natCast_mul]; omega
  rw [run_make W t e i z ht hi' hz .i64 .i64 n n (by omega) (Int.le_refl _) hb' (by omega)]
  have : madeCells z.cells ((n : Int).toNat * i.size) = mk n z := by
    rw [hz1, hs]
    simp only [madeCells, mk, Int.toNat_natCast, Nat.mul_one]
    apply Array.ext
    · simp
    · intro i h1 h2
      simp [Nat.mod_one]
  rw [this]
  simp
theorem wpList_cp (w : World) {ops : Array Oper} {rest : List Oper} {o : Oper} {a : Act} {Q : Exit → Act → World → Prop} (hgd : o.guard = none) (d s : Operand) (dT sT : TypeId)
    (ho : o.op = .call { callee := .builtin .copy, args := #[d, s], argTypes := #[dT, sT] }) (e : TypeId) {z : Value} {bytes : Nat} (hu : P.underlying dT = some (.slice e)) (hi : TI P e z 1 bytes)
    (g off dLen dCap : Nat) (A : Option Addr) (sLen sCap : Nat) (hd : a.eval d = .slice (some ⟨g, off, none⟩) dLen dCap) (hs : a.eval s = .slice A sLen sCap)
    (t : TypeId) (cur : Array Value) (hg : Blk w g t cur) (te : TypeId) (xs : List Value) (hr : Rd w te A sLen xs) (hfit : off + dLen ≤ cur.size) (h1 : ∀ v ∈ xs, v.oneCell' = true)
    (h : ∀ w', Blk w' g t (splice cur.toList off (xs.take dLen)).toArray → Chg (fun i => i = g) w w' → wpList P ops Q rest (a.put o.dst (goInt (Nat.min sLen dLen))) w') :
    wpList P ops Q (o :: rest) a w := by
  obtain ⟨i, hi', _, hs1, _⟩ := info_parts hi
  have hsz : (P.info? e).map (·.size) = some 1 := by rw [hi']; simp [hs1]
  have hlen : (xs.take dLen).length = Nat.min sLen dLen := by rw [List.length_take, hr.1]; exact Nat.min_comm _ _
  by_cases h0 : (xs.take dLen).length = 0
  · have hx : xs.take dLen = [] := List.eq_nil_of_length_eq_zero h0
    have hm : Nat.min sLen dLen = 0 := by rw [← hlen]; exact h0
    refine wpList_copy_nothing hgd d s dT sT ho e hu hsz (some ⟨g, off, none⟩) A dLen dCap sLen sCap hd hs hm ?_
    have := h w (by rw [hx]; simpa [splice, Blk] using hg) (Chg.refl _ _)
    rw [hm] at this
    simpa using this
  · have hle : Nat.min sLen dLen ≤ dLen := Nat.min_le_right _ _
    obtain ⟨g', off', cur', fz, rfl, hg', hx⟩ := hr.2 (by have hle1 : Nat.min sLen dLen ≤ sLen := Nat.min_le_left _ _; rw [hlen] at h0; omega)
    refine wpList_copy_own hgd d s dT sT ho e hu hsz g off dLen dCap ⟨g', off', none⟩ sLen sCap hd hs cur t hg (xs.take dLen) hlen ?_ (by omega) (fun v hv => h1 v (List.mem_of_mem_take hv)) ?_
    · intro j v hv
      have hadd : (⟨g', off', none⟩ : Addr).add j = ⟨g', off' + j, none⟩ := by unfold Addr.add; split <;> simp_all
      rw [hadd, cell_of_row w g' _ cur' te fz hg']
      rw [List.getElem?_take] at hv
      split at hv
      · exact hx j v hv
      · cases hv
    · rw [hlen]
      have := h (w.setRow g (splice cur.toList off (xs.take dLen)).toArray) (setRow_heap w g cur _ t _ hg) ⟨rfl, rfl, rfl, by simp [World.setRow], fun k _ hk => setRow_other w g k _ hk⟩
      simpa only [splice, hlen] using this
end
section
variable {w w' : World} {base e size n : Nat} {v : Value} {xs : List Value} {S : Nat → Prop}
theorem own_new (h : w.ownsRow base e size v n xs) : ∀ k, v.ownBlock = some k → base ≤ k := fun k hk => (h.lt k hk).1
theorem own_chg (h : w.ownsRow base e size v n xs) (hc : Chg S w w') (hn : ∀ k, v.ownBlock = some k → ¬ S k) : w'.ownsRow base e size v n xs := by
  refine ⟨h.1, ?_⟩
  rcases h.2 with h0 | ⟨g, cap, cur, rfl, hb, hg, rest⟩
  · exact .inl h0
  · exact .inr ⟨g, cap, cur, rfl, hb, hc.at_ hg (hn g (by simp [Value.ownBlock])), rest⟩
theorem own_other (h : w.ownsRow base e size v n xs) {g : Nat} {cs : Array Value} {t : TypeId} {fz : Nat × Nat} (hg : w.heap[g]? = some (.cells cs t fz)) (ht : t ≠ e) : v.ownBlock ≠ some g := by
  rcases h.2 with ⟨rfl, _⟩ | ⟨g', cap, cur, rfl, _, hh, _⟩
  · simp [Value.ownBlock]
  · intro he
    have : g' = g := by simpa [Value.ownBlock] using he
    subst this
    rw [hh] at hg
    cases hg
    exact ht rfl
theorem own_empty (w : World) (e size : TypeId) : (w.alloc (.cells #[] e)).ownsRow w.heap.size e size (.slice (some ⟨w.heap.size, 0, none⟩) 0 0) 0 [] :=
  World.ownsRow_made w #[] 0 (Nat.le_refl _) (by omega) (by simp)
theorem own_cells (w : World) (e : TypeId) (cs : Array Value) (n : Nat) (h : cs.size = n) (hn : n ≤ maxLen) : (w.alloc (.cells cs e)).ownsRow w.heap.size e 1 (.slice (some ⟨w.heap.size, 0, none⟩) n n) n cs.toList :=
  ⟨by simp [h], .inr ⟨w.heap.size, n, cs, rfl, Nat.le_refl _, heap_alloc_new w _, Nat.le_refl _, hn, by omega, by rw [List.take_of_length_le]; simp; omega⟩⟩
theorem own_one (w : World) (e : TypeId) (u : Value) : (w.alloc (.cells #[u] e)).ownsRow w.heap.size e 1 (.slice (some ⟨w.heap.size, 0, none⟩) 1 1) 1 [u] :=
  own_cells w e #[u] 1 rfl (by simp [maxLen])
theorem own_base {base' : Nat} (h : w.ownsRow base e size v n xs) (hb : base' ≤ base) : w.ownsRow base' e size v n xs := by
  refine ⟨h.1, ?_⟩
  rcases h.2 with h0 | ⟨g, cap, cur, hv, hg, rest⟩
  · exact .inl h0
  · exact .inr ⟨g, cap, cur, hv, by omega, rest⟩
theorem own_slice (h : w.ownsRow base e size v n xs) : ∃ A c, v = .slice A n c ∧ n ≤ c ∧ Rd w e A (n * size) xs := by
  rcases h.2 with ⟨rfl, rfl⟩ | ⟨g, cap, cur, rfl, hb, hg, hnc, rest⟩
  · exact ⟨none, 0, rfl, Nat.le_refl _, Rd.ofOwn h⟩
  · exact ⟨_, cap, rfl, hnc, Rd.ofOwn h⟩
end
end Go.Proofs.YtplpbbdakihnfaaGreat
end
