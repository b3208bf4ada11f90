/- Maps whose keys are whole numbers or strings, told as lists of pairs: what the model's operations on them come to. -/
import Derived.Test.YtedkoplgfidjlaaDoorBase
import Derived.MapKept
namespace Go.Proofs.YtedkoplgfidjlaaDoor
open Go.RowKit
open Go.ChangeMaps (setBlock)
open Go.MapKept (run_setObj_map run_checkKey bytes_beq)
set_option linter.unusedSectionVars false
set_option linter.unusedSimpArgs false
set_option linter.unusedVariables false

section plain
variable {κ V : Type} [DecidableEq κ]
def aget (l : List (κ × V)) (k : κ) : Option V := match l with
  | [] => none
  | p :: r => if p.1 = k then some p.2 else aget r k
def aset (l : List (κ × V)) (k : κ) (v : V) : List (κ × V) := match l with
  | [] => [(k, v)]
  | p :: r => if p.1 = k then (k, v) :: r else p :: aset r k v
def adel (l : List (κ × V)) (k : κ) : List (κ × V) := match l with
  | [] => []
  | p :: r => if p.1 = k then r else p :: adel r k
def akeys (l : List (κ × V)) : List κ := l.map (·.1)

theorem aget_none {l : List (κ × V)} {k : κ} : aget l k = none ↔ k ∉ akeys l := by
  induction l with
  | nil => simp [aget, akeys]
  | cons p r ih =>
    simp only [aget, akeys, List.map_cons, List.mem_cons, not_or]
    by_cases h : p.1 = k
    · simp [h]
    · rw [if_neg h, ih]
      simp only [akeys]
      exact ⟨fun hh => ⟨fun e => h e.symm, hh⟩, fun hh => hh.2⟩
theorem aget_mem {l : List (κ × V)} {k : κ} {v : V} (h : aget l k = some v) : (k, v) ∈ l := by
  induction l with
  | nil => simp [aget] at h
  | cons p r ih =>
    simp only [aget] at h
    split at h
    · rename_i hk
      injection h with h
      subst h; subst hk
      exact List.mem_cons_self
    · exact List.mem_cons_of_mem _ (ih h)
theorem aget_of_mem {l : List (κ × V)} (hn : (akeys l).Nodup) {k : κ} {v : V} (h : (k, v) ∈ l) : aget l k = some v := by
  induction l with
  | nil => cases h
  | cons p r ih =>
    simp only [akeys, List.map_cons, List.nodup_cons] at hn
    simp only [aget]
    rcases List.mem_cons.1 h with e | hr
    · subst e; simp
    · rw [if_neg (fun e => hn.1 (by rw [e]; exact List.mem_map_of_mem (f := (·.1)) hr))]
      exact ih hn.2 hr
theorem aget_aset (l : List (κ × V)) (k k' : κ) (v : V) : aget (aset l k v) k' = if k = k' then some v else aget l k' := by
  induction l with
  | nil => simp [aset, aget]
  | cons p r ih =>
    simp only [aset]
    by_cases h : p.1 = k
    · rw [if_pos h]
      simp only [aget]
      by_cases h2 : k = k'
      · simp [h2]
      · rw [if_neg h2, if_neg h2, if_neg (by rw [h]; exact h2)]
    · rw [if_neg h]
      simp only [aget, ih]
      by_cases h2 : k = k'
      · subst h2; simp [h]
      · simp [h2]
theorem mem_akeys_aset (l : List (κ × V)) (k k' : κ) (v : V) : k' ∈ akeys (aset l k v) ↔ k' = k ∨ k' ∈ akeys l := by
  rw [← Decidable.not_iff_not, ← aget_none, aget_aset]
  by_cases h : k = k'
  · subst h; simp
  · rw [if_neg h, aget_none, not_or]
    exact ⟨fun hh => ⟨fun e => h e.symm, hh⟩, fun hh => hh.2⟩
theorem nodup_aset (l : List (κ × V)) (k : κ) (v : V) (hn : (akeys l).Nodup) : (akeys (aset l k v)).Nodup := by
  induction l with
  | nil => simp [aset, akeys]
  | cons p r ih =>
    have hn' := hn
    simp only [akeys, List.map_cons, List.nodup_cons] at hn
    simp only [aset]
    by_cases h : p.1 = k
    · rw [if_pos h]
      simp only [akeys, List.map_cons, List.nodup_cons]
      exact ⟨by rw [← h]; exact hn.1, hn.2⟩
    · rw [if_neg h]
      simp only [akeys, List.map_cons, List.nodup_cons]
      refine ⟨fun hh => ?_, ih hn.2⟩
      rcases (mem_akeys_aset r k p.1 v).1 hh with e | e
      · exact h e
      · exact hn.1 e
theorem aget_adel (l : List (κ × V)) (hn : (akeys l).Nodup) (k k' : κ) : aget (adel l k) k' = if k = k' then none else aget l k' := by
  induction l with
  | nil => simp [adel, aget]
  | cons p r ih =>
    simp only [akeys, List.map_cons, List.nodup_cons] at hn
    simp only [adel]
    by_cases h : p.1 = k
    · rw [if_pos h]
      by_cases h2 : k = k'
      · subst h2; rw [if_pos rfl, aget_none, ← h]; exact hn.1
      · rw [if_neg h2]; simp only [aget]; rw [if_neg (by rw [h]; exact h2)]
    · rw [if_neg h]
      simp only [aget, ih hn.2]
      by_cases h2 : k = k'
      · subst h2; simp [h]
      · simp [h2]
theorem nodup_adel (l : List (κ × V)) (k : κ) (hn : (akeys l).Nodup) : (akeys (adel l k)).Nodup := by
  have hs : ∀ l : List (κ × V), (akeys (adel l k)).Sublist (akeys l) := by
    intro l
    induction l with
    | nil => simp [adel]
    | cons p r ih =>
      simp only [adel]
      split
      · simp only [akeys, List.map_cons]; exact List.sublist_cons_self _ _
      · simp only [akeys, List.map_cons]; exact ih.cons_cons _
  exact (hs l).nodup hn
end plain

/-- How a type's keys are held against each other. -/
structure KeyLaw (P : Program) (kt : TypeId) {κ : Type} [DecidableEq κ] (K : κ → Value) : Prop where
  now : ∃ d, P.underlying kt = some d ∧ ∀ a b, Instr.sameNow d (K a) (K b) = some (decide (a = b))
  check : ∀ (e : Bool) (k : κ) (w : World), (Instr.checkKey e 10000 kt (K k)).run P w = .ok () w
  bits : ∀ k, Instr.sameBits 10000 (K k) (K k) = true

theorem keyLaw_int {P : Program} {kt : TypeId} {q : IntKind} (h : P.underlying kt = some (.int q)) : KeyLaw P kt (fun n : Int => Value.int q n) where
  now := ⟨_, h, fun a b => by
    simp only [Instr.sameNow, if_true]
    congr 1⟩
  check := fun e k w => run_checkKey h (by simp [Go.MapKept.IsKey]) e 9999
  bits := fun k => by unfold Instr.sameBits; simp
theorem keyLaw_string {P : Program} {kt : TypeId} (h : P.underlying kt = some .string) : KeyLaw P kt (fun s : ByteArray => Value.string s) where
  now := ⟨_, h, fun a b => by
    simp only [Instr.sameNow]
    congr 1
    by_cases e : a = b
    · simp [e, (bytes_beq b b).2 rfl]
    · simp only [e, decide_false]
      exact Bool.eq_false_iff.2 (fun hh => e ((bytes_beq a b).1 hh))⟩
  check := fun e k w => run_checkKey h (by simp [Go.MapKept.IsKey]) e 9999
  bits := fun k => by unfold Instr.sameBits; exact (bytes_beq k k).2 rfl

/-- Block b is a map that holds just the pairs es. -/
def MapIs {κ : Type} (K : κ → Value) (w : World) (b : Nat) (es : List (κ × Value)) : Prop :=
  ∃ arr clock, w.heap[b]? = some (.map arr clock) ∧ arr.toList.map (fun e => (e.key, e.val)) = es.map (fun p => (K p.1, p.2)) ∧ (es.map (·.1)).Nodup ∧
    (arr.toList.map (·.born)).Nodup ∧ (∀ e ∈ arr.toList, e.born < clock)

section
variable {κ : Type} [DecidableEq κ] {K : κ → Value} {P : Program} {kt : TypeId} {w w' : World} {b : Nat} {es : List (κ × Value)} {S : Nat → Prop}
theorem MapIs.lt (h : MapIs K w b es) : b < w.heap.size := by
  obtain ⟨arr, clock, hb, _⟩ := h
  exact (Array.getElem?_eq_some_iff.1 hb).1
theorem MapIs.chg (h : MapIs K w b es) (hc : Chg S w w') (hn : ¬ S b) : MapIs K w' b es := by
  obtain ⟨arr, clock, hb, r⟩ := h
  exact ⟨arr, clock, hc.at_ hb hn, r⟩
theorem MapIs.nodup (h : MapIs K w b es) : (akeys es).Nodup := by
  obtain ⟨_, _, _, _, h, _⟩ := h
  exact h
theorem MapIs.ne_blk (h : MapIs K w b es) {g t cs fz} (hg : w.heap[g]? = some (.cells cs t fz)) : b ≠ g := by
  obtain ⟨arr, clock, hb, _⟩ := h
  rintro rfl
  rw [hb] at hg
  cases hg
theorem MapIs.made (K : κ → Value) (w : World) : MapIs K (w.alloc (.map #[] 0)) w.heap.size ([] : List (κ × Value)) :=
  ⟨#[], 0, heap_alloc_new w _, rfl, by simp, by simp, by simp⟩
theorem MapIs.drewN (h : MapIs K w b es) (n : Nat) : MapIs K (w.drewN n) b es := h
theorem MapIs.alloc (h : MapIs K w b es) (o : Obj) : MapIs K (w.alloc o) b es := h.chg (Chg.alloc (Chg.refl No w) o) (fun h => h)

theorem findNow_is {d : TypeDesc} (hd : ∀ a b, Instr.sameNow d (K a) (K b) = some (decide (a = b))) (k : κ) : ∀ (l : List MapEntry) (es : List (κ × Value)) (i : Nat), l.map (fun e => (e.key, e.val)) = es.map (fun p => (K p.1, p.2)) →
    ∃ r, Instr.findNow d (K k) l i = some r ∧ (match r with
      | none => aget es k = none
      | some (j, v) => aget es k = some v ∧ i ≤ j ∧ j - i < l.length ∧ (∃ e, l[j - i]? = some e ∧ e.key = K k ∧ e.val = v) ∧
          (∀ v', (l.modify (j - i) fun e => { e with key := K k, val := v' }).map (fun e => (e.key, e.val)) = (aset es k v').map (fun p => (K p.1, p.2))) ∧
          (l.eraseIdx (j - i)).map (fun e => (e.key, e.val)) = (adel es k).map (fun p => (K p.1, p.2)))
  | [], [], i, _ => ⟨none, rfl, rfl⟩
  | [], _ :: _, i, h => by simp at h
  | _ :: _, [], i, h => by simp at h
  | e :: l, p :: es, i, h => by
    simp only [List.map_cons, List.cons.injEq, Prod.mk.injEq] at h
    obtain ⟨⟨hk, hv⟩, ht⟩ := h
    have hs : Instr.sameNow d (K k) e.key = some (decide (k = p.1)) := by rw [hk]; exact hd _ _
    by_cases hkp : k = p.1
    · have hs' : Instr.sameNow d (K k) e.key = some true := by rw [hs]; simp [hkp]
      refine ⟨some (i, e.val), by simp [Instr.findNow, hs'], ?_⟩
      subst hkp
      simp only [Nat.sub_self]
      refine ⟨by simp [aget, hv], Nat.le_refl _, by simp, ⟨e, by simp, hk, rfl⟩, fun v' => ?_, ?_⟩
      · simp [List.modify, aset, ht]
      · simp [adel, ht]
    · obtain ⟨r, hr, hm⟩ := findNow_is hd k l es (i + 1) ht
      refine ⟨r, by simp [Instr.findNow, hs, hkp, hr], ?_⟩
      have hpk : ¬ p.1 = k := fun e => hkp e.symm
      match r, hm with
      | none, hm => simpa [aget, hpk] using hm
      | some (j, v), ⟨h1, h2, h3, ⟨e', h4, h5, h6⟩, h7, h8⟩ =>
        have hj : j - i = (j - (i + 1)) + 1 := by omega
        refine ⟨by simpa [aget, hpk] using h1, by omega, by simp; omega, ⟨e', by rw [hj]; simpa using h4, h5, h6⟩, fun v' => ?_, ?_⟩
        · rw [hj]
          have := h7 v'
          simp only [List.modify_succ_cons, List.map_cons, aset, if_neg hpk, this, hk, hv]
        · rw [hj]
          simp only [List.eraseIdx_cons_succ, List.map_cons, adel, if_neg hpk, h8, hk, hv]

theorem findKey_is (L : KeyLaw P kt K) (k : κ) {l : List MapEntry} (h : l.map (fun e => (e.key, e.val)) = es.map (fun p => (K p.1, p.2))) :
    ∃ r, (∀ w : World, (Instr.findKey kt (K k) l).run P w = .ok r w) ∧ (match r with
      | none => aget es k = none
      | some (j, v) => aget es k = some v ∧ j < l.length ∧ (∃ e, l[j]? = some e ∧ e.key = K k ∧ e.val = v) ∧
          (∀ v', (l.modify j fun e => { e with key := K k, val := v' }).map (fun e => (e.key, e.val)) = (aset es k v').map (fun p => (K p.1, p.2))) ∧
          (l.eraseIdx j).map (fun e => (e.key, e.val)) = (adel es k).map (fun p => (K p.1, p.2))) := by
  obtain ⟨d, hd, hs⟩ := L.now
  obtain ⟨r, hr, hm⟩ := findNow_is hs k l es 0 h
  refine ⟨r, fun w => by simp [Instr.findKey, run_underlying hd, hr], ?_⟩
  match r, hm with
  | none, hm => exact hm
  | some (j, v), ⟨h1, _, h3, h4, h7, h8⟩ => exact ⟨h1, by simpa using h3, by simpa using h4, by simpa using h7, by simpa using h8⟩

/-- 'm[k]', 'v, ok := m[k]' -/
theorem MapIs.lookup (h : MapIs K w b es) (L : KeyLaw P kt K) {T e : TypeId} (hT : P.underlying T = some (.map kt e)) {z : Value} (hz : (zeroValue e).run P w = .ok z w) (k : κ) (ok : Bool) :
    (Instr.lookup T (.map (some b)) (K k) ok).run P w = .ok (if ok then .tuple #[(aget es k).getD z, .bool (aget es k).isSome] else (aget es k).getD z) w := by
  obtain ⟨arr, clock, hb, hm, _⟩ := h
  obtain ⟨r, hr, hh⟩ := findKey_is L k hm
  match r, hh with
  | none, hh => simp [Instr.lookup, run_underlying hT, Go.MapKept.run_getObj_map hb, L.check, hr, hh, hz]
  | some (j, v), hh => simp [Instr.lookup, run_underlying hT, Go.MapKept.run_getObj_map hb, L.check, hr, hh.1]

theorem setBlock_self {w : World} {b : Nat} (hlt : b < w.heap.size) (o : Obj) : (setBlock w b o).heap[b]? = some o := by simp [setBlock, hlt]

theorem nodup_push {arr : Array MapEntry} {clock : Nat} (h1 : (arr.toList.map (·.born)).Nodup) (h2 : ∀ e ∈ arr.toList, e.born < clock) (key val : Value) :
    ((arr.push { key, val, born := clock }).toList.map (·.born)).Nodup ∧ ∀ e ∈ (arr.push { key, val, born := clock }).toList, e.born < clock + 1 := by
  constructor
  · simp only [Array.toList_push, List.map_append, List.map_cons, List.map_nil]
    rw [List.nodup_append]
    refine ⟨h1, by simp, ?_⟩
    intro a ha b' hb'
    simp only [List.mem_singleton] at hb'
    obtain ⟨e, he, rfl⟩ := List.mem_map.1 ha
    have := h2 e he
    omega
  · intro e he
    simp only [Array.toList_push, List.mem_append, List.mem_singleton] at he
    rcases he with he | rfl
    · have := h2 e he
      omega
    · simp

theorem aset_not_mem {V : Type} (l : List (κ × V)) (k : κ) (v : V) (h : aget l k = none) : aset l k v = l ++ [(k, v)] := by
  induction l with
  | nil => rfl
  | cons p r ih =>
    simp only [aget] at h
    split at h
    · cases h
    · rename_i hne
      simp only [aset, if_neg hne, List.cons_append, ih h]

/-- 'm[k] = v' -/
theorem MapIs.update (h : MapIs K w b es) (L : KeyLaw P kt K) {T e : TypeId} (hT : P.underlying T = some (.map kt e)) (k : κ) (v : Value) :
    ∃ o, (Instr.mapUpdate T (.map (some b)) (K k) v).run P w = .ok () (setBlock w b o) ∧ MapIs K (setBlock w b o) b (aset es k v) := by
  obtain ⟨arr, clock, hb, hm, hn, hs1, hs2⟩ := h
  have hlt : b < w.heap.size := (Array.getElem?_eq_some_iff.1 hb).1
  obtain ⟨r, hr, hh⟩ := findKey_is L k hm
  match r, hh with
  | none, hh =>
    refine ⟨.map (arr.push { key := K k, val := v, born := clock }) (clock + 1), by simp [Instr.mapUpdate, run_underlying hT, Go.MapKept.run_getObj_map hb, L.check, hr, Go.MapKept.run_setObj_map _ hb, setBlock], _, _, setBlock_self hlt _, ?_, nodup_aset es k v hn, (nodup_push hs1 hs2 _ _).1, (nodup_push hs1 hs2 _ _).2⟩
    rw [aset_not_mem es k v hh]
    simp [hm]
  | some (j, v0), ⟨h1, h2, ⟨e0, h3, h4, h5⟩, h6, _⟩ =>
    have hkey : ((arr[j]?).map (·.key)).getD (K k) = K k := by
      have : arr[j]? = some e0 := by simpa using h3
      simp [this, h4]
    refine ⟨.map (arr.modify j fun e => { e with key := K k, val := v }) clock, by simp [Instr.mapUpdate, run_underlying hT, Go.MapKept.run_getObj_map hb, L.check, hr, Instr.keyThatStays, hkey, L.bits, Go.MapKept.run_setObj_map _ hb, setBlock], _, _, setBlock_self hlt _, ?_, nodup_aset es k v hn, ?_, ?_⟩
    · rw [← h6 v]; simp
    · have : (arr.modify j fun e => { e with key := K k, val := v }).toList.map (·.born) = arr.toList.map (·.born) := by
        apply List.ext_getElem?
        intro i
        simp only [Array.toList_modify, List.getElem?_map, List.getElem?_modify]
        cases arr.toList[i]? <;> simp
        split <;> rfl
      rw [this]; exact hs1
    · intro e he
      have hb2 : e.born ∈ (arr.modify j fun e => { e with key := K k, val := v }).toList.map (·.born) := List.mem_map_of_mem (f := (·.born)) he
      have : (arr.modify j fun e => { e with key := K k, val := v }).toList.map (·.born) = arr.toList.map (·.born) := by
        apply List.ext_getElem?
        intro i
        simp only [Array.toList_modify, List.getElem?_map, List.getElem?_modify]
        cases arr.toList[i]? <;> simp
        split <;> rfl
      rw [this] at hb2
      obtain ⟨e2, he2, hb3⟩ := List.mem_map.1 hb2
      rw [← hb3]
      exact hs2 e2 he2

theorem adel_not_mem {V : Type} (l : List (κ × V)) (k : κ) (h : aget l k = none) : adel l k = l := by
  induction l with
  | nil => rfl
  | cons p r ih =>
    simp only [aget] at h
    split at h
    · cases h
    · rename_i hne
      simp only [adel, if_neg hne, ih h]

/-- 'delete(m, k)' -/
theorem MapIs.delete (h : MapIs K w b es) (L : KeyLaw P kt K) {T e ty kt' : TypeId} (hT : P.underlying T = some (.map kt e)) (k : κ) :
    ∃ o, (Builtin.delete_ #[T, kt'] ty #[.map (some b), K k]).run P w = .ok (.tuple #[]) (setBlock w b o) ∧ MapIs K (setBlock w b o) b (adel es k) := by
  obtain ⟨arr, clock, hb, hm, hn, hs1, hs2⟩ := h
  have hlt : b < w.heap.size := (Array.getElem?_eq_some_iff.1 hb).1
  obtain ⟨r, hr, hh⟩ := findKey_is L k hm
  match r, hh with
  | none, hh =>
    refine ⟨.map arr clock, by simp [Builtin.delete_, run_underlying hT, Go.MapKept.run_getObj_map hb, L.check, hr, Go.MapKept.run_setObj_map _ hb, setBlock], _, _, setBlock_self hlt _, ?_, nodup_adel es k hn, hs1, hs2⟩
    rw [adel_not_mem es k hh]; exact hm
  | some (j, v0), ⟨h1, h2, _, _, h6⟩ =>
    refine ⟨.map (arr.eraseIdxIfInBounds j) clock, by simp [Builtin.delete_, run_underlying hT, Go.MapKept.run_getObj_map hb, L.check, hr, Go.MapKept.run_setObj_map _ hb, setBlock], _, _, setBlock_self hlt _, ?_, nodup_adel es k hn, ?_, ?_⟩
    · rw [← h6]; simp
    · refine List.Sublist.nodup (List.Sublist.map _ ?_) hs1
      simp [List.eraseIdx_sublist]
    · intro e he
      refine hs2 e ?_
      have : (arr.eraseIdxIfInBounds j).toList.Sublist arr.toList := by simp [List.eraseIdx_sublist]
      exact this.subset he

/-- 'clear(m)' -/
theorem MapIs.clear (h : MapIs K w b es) {T ty kt e : TypeId} (hT : P.underlying T = some (.map kt e)) :
    ∃ o, (Builtin.clear_ #[T] ty #[.map (some b)]).run P w = .ok (.tuple #[]) (setBlock w b o) ∧ MapIs K (setBlock w b o) b [] := by
  obtain ⟨arr, clock, hb, hm, hn, hs1, hs2⟩ := h
  have hlt : b < w.heap.size := (Array.getElem?_eq_some_iff.1 hb).1
  exact ⟨.map #[] clock, by simp [Builtin.clear_, run_underlying hT, Go.MapKept.run_getObj_map hb, Go.MapKept.run_setObj_map _ hb, setBlock], _, _, setBlock_self hlt _, rfl, by simp, by simp, by simp⟩
end
end Go.Proofs.YtedkoplgfidjlaaDoor
