/- What the buckets hold, in plain Lean: each item stands in its key's bucket, no key twice, each filter knows its keys. -/
import Derived.Test.YtinofdfjaopdcaaPlain
import Derived.Test.YtinofdfjaopdcaaLawC
namespace Go.Proofs.Ytinofdfjaopdcaa
open Go.RowKit
set_option linter.unusedSimpArgs false
set_option linter.unusedVariables false

theorem nodup_of_map {α β : Type} (f : α → β) {l : List α} (h : (l.map f).Nodup) : l.Nodup := by
  induction l with
  | nil => exact List.nodup_nil
  | cons a r ih =>
    rw [List.map_cons, List.nodup_cons] at h
    exact List.nodup_cons.2 ⟨fun hm => h.1 (List.mem_map_of_mem hm), ih h.2⟩
def keys (l : List Item) : List ByteArray := l.map (·.key)
theorem mem_rid {l : List Item} {key : ByteArray} {y : Item} : y ∈ rid l key ↔ y ∈ l ∧ y.key ≠ key := by
  simp [rid, keyed]
theorem keys_rid_sub (l : List Item) (key : ByteArray) : (keys (rid l key)).Sublist (keys l) := List.filter_sublist.map _
theorem key_not_rid (l : List Item) (key : ByteArray) : key ∉ keys (rid l key) := by
  simp only [keys, List.mem_map, not_exists, not_and]
  intro x hx
  exact (mem_rid.1 hx).2
theorem nodup_pnew {l : List Item} {x : Item} (h : (keys l).Nodup) : (keys (pnew l x)).Nodup := by
  unfold pnew keys
  rw [List.map_append, List.nodup_append]
  refine ⟨(keys_rid_sub l x.key).nodup h, by simp, ?_⟩
  intro a ha b hb
  simp only [List.map_cons, List.map_nil, List.mem_singleton] at hb
  subst hb
  rintro rfl
  exact key_not_rid l _ ha
theorem pnew_split (l : List Item) (x : Item) : pout l x ++ pleft l x = pnew l x := List.take_append_drop _ _
theorem records_one (x : Item) : (records [x]).length = x.size := by simp [records, record_length]
theorem fitN_last (l : List Item) (x : Item) (h : x.size ≤ 384) : fitN (l ++ [x]) ≤ l.length := by
  induction l with
  | nil =>
    rw [List.nil_append, fitN, if_neg (by rw [records_one]; omega)]
    exact Nat.le_refl _
  | cons y r ih =>
    rw [List.cons_append, fitN]
    split
    · simp only [List.length_cons]; omega
    · exact Nat.zero_le _
theorem pout_eq (l : List Item) (x : Item) (h : x.size ≤ 384) : pout l x = (rid l x.key).take (fitN (pnew l x)) := by
  unfold pout
  rw [show pnew l x = rid l x.key ++ [x] from rfl]
  exact List.take_append_of_le_length (fitN_last _ x h)
theorem pleft_eq (l : List Item) (x : Item) (h : x.size ≤ 384) : pleft l x = (rid l x.key).drop (fitN (pnew l x)) ++ [x] := by
  unfold pleft
  rw [show pnew l x = rid l x.key ++ [x] from rfl]
  exact List.drop_append_of_le_length (fitN_last _ x h)
theorem mem_pleft (l : List Item) (x : Item) (h : x.size ≤ 384) : x ∈ pleft l x := by rw [pleft_eq l x h]; simp
theorem pleft_sub {l : List Item} {x y : Item} (h : y ∈ pleft l x) : y = x ∨ (y ∈ l ∧ y.key ≠ x.key) := by
  have h1 : y ∈ pnew l x := List.mem_of_mem_drop h
  unfold pnew at h1
  rcases List.mem_append.1 h1 with h1 | h1
  · exact .inr (mem_rid.1 h1)
  · exact .inl (by simpa using h1)
theorem pout_sub {l : List Item} {x y : Item} (hx : x.size ≤ 384) (h : y ∈ pout l x) : y ∈ l ∧ y.key ≠ x.key := by
  rw [pout_eq l x hx] at h
  exact mem_rid.1 (List.mem_of_mem_take h)
/-- what has to go, had to -/
theorem fitN_need : ∀ (l : List Item), 0 < fitN l → 384 < (records (l.drop (fitN l - 1))).length := by
  intro l
  induction l with
  | nil => intro h; simp [fitN] at h
  | cons x r ih =>
    intro h
    rw [fitN] at h ⊢
    by_cases h1 : 384 < (records (x :: r)).length
    · rw [if_pos h1] at h ⊢
      by_cases h2 : fitN r = 0
      · rw [h2]; simpa using h1
      · have := ih (by omega)
        rw [show fitN r + 1 - 1 = fitN r - 1 + 1 from by omega, List.drop_succ_cons]
        exact this
    · rw [if_neg h1] at h; exact absurd h (by omega)

/-- each item stands in its key's bucket, no key twice, each filter knows its bucket's keys -/
structure Fine (B : Sto) (ls : List (List Item)) : Prop where
  home : ∀ (i : Nat) (l : List Item), ls[i]? = some l → ∀ x ∈ l, B.no x.key = i
  apart : ∀ (i : Nat) (l : List Item), ls[i]? = some l → (keys l).Nodup
  bits : ∀ (i : Nat) (bs : List Bool), B.fs[i]? = some bs → bs.length = 256
  told : ∀ (i : Nat) (l : List Item) (bs : List Bool), ls[i]? = some l → B.fs[i]? = some bs → ∀ x ∈ l, fmay bs (places 256 3 x.key.data.toList) = true

section
variable {B : Sto} {ls : List (List Item)}
theorem add_no (B : Sto) (x : Item) (key : ByteArray) : (B.add x).no key = B.no key := by unfold Sto.no; rw [show (B.add x).fs.length = B.fs.length from by simp [Sto.add]]
theorem Fine.put (h : Fine B ls) (x : Item) (hx : x.size ≤ 384) {l : List Item} (hl : ls[B.no x.key]? = some l) : Fine (B.add x) (ls.set (B.no x.key) (pleft l x)) := by
  have hlt : B.no x.key < ls.length := (List.getElem?_eq_some_iff.1 hl).1
  refine { home := ?_, apart := ?_, bits := ?_, told := ?_ }
  · intro i l' hi y hy
    rw [add_no]
    by_cases hij : B.no x.key = i
    · subst hij
      rw [List.getElem?_set_self hlt] at hi
      injection hi with hi
      subst hi
      rcases pleft_sub hy with rfl | ⟨h1, _⟩
      · rfl
      · exact h.home _ _ hl y h1
    · rw [List.getElem?_set_ne hij] at hi
      exact h.home _ _ hi y hy
  · intro i l' hi
    by_cases hij : B.no x.key = i
    · subst hij
      rw [List.getElem?_set_self hlt] at hi
      injection hi with hi
      subst hi
      exact ((List.drop_sublist _ _).map _).nodup (nodup_pnew (h.apart _ _ hl))
    · rw [List.getElem?_set_ne hij] at hi
      exact h.apart _ _ hi
  · intro i bs hb
    simp only [Sto.add, List.getElem?_modify] at hb
    cases hf : B.fs[i]? with
    | none => rw [hf] at hb; cases hb
    | some b0 =>
      rw [hf] at hb
      replace hb : (if B.no x.key = i then fadd b0 (places 256 3 x.key.data.toList) else b0) = bs := Option.some.inj hb
      have := h.bits i b0 hf
      subst hb
      split
      · rw [fadd_length]; exact this
      · exact this
  · intro i l' bs hi hb y hy
    simp only [Sto.add, List.getElem?_modify] at hb
    cases hf : B.fs[i]? with
    | none => rw [hf] at hb; cases hb
    | some b0 =>
      rw [hf] at hb
      replace hb : (if B.no x.key = i then fadd b0 (places 256 3 x.key.data.toList) else b0) = bs := Option.some.inj hb
      have hb0 := h.bits i b0 hf
      by_cases hij : B.no x.key = i
      · subst hij
        rw [if_pos rfl] at hb
        subst hb
        rw [List.getElem?_set_self hlt] at hi
        injection hi with hi
        subst hi
        rcases pleft_sub hy with rfl | ⟨h1, _⟩
        · exact fmay_fadd _ _ (fun i hi => by rw [hb0]; exact places_lt (by decide) _ _ i hi)
        · exact fmay_keeps _ _ _ (h.told _ _ _ hl hf y h1)
      · rw [if_neg hij] at hb
        subst hb
        rw [List.getElem?_set_ne hij] at hi
        exact h.told _ _ _ hi hf y hy
theorem Fine.drop (h : Fine B ls) (key : ByteArray) {l : List Item} (hl : ls[B.no key]? = some l) : Fine B (ls.set (B.no key) (rid l key)) := by
  have hlt : B.no key < ls.length := (List.getElem?_eq_some_iff.1 hl).1
  have hk : ∀ (i : Nat) (l' : List Item), (ls.set (B.no key) (rid l key))[i]? = some l' → ∃ l0, ls[i]? = some l0 ∧ l'.Sublist l0 := by
    intro i l' hi
    by_cases hij : B.no key = i
    · subst hij
      rw [List.getElem?_set_self hlt] at hi
      injection hi with hi
      subst hi
      exact ⟨l, hl, List.filter_sublist⟩
    · rw [List.getElem?_set_ne hij] at hi
      exact ⟨l', hi, List.Sublist.refl _⟩
  refine { home := ?_, apart := ?_, bits := h.bits, told := ?_ }
  · intro i l' hi y hy
    obtain ⟨l0, h0, hs⟩ := hk i l' hi
    exact h.home i l0 h0 y (hs.subset hy)
  · intro i l' hi
    obtain ⟨l0, h0, hs⟩ := hk i l' hi
    exact (hs.map _).nodup (h.apart i l0 h0)
  · intro i l' bs hi hb y hy
    obtain ⟨l0, h0, hs⟩ := hk i l' hi
    exact h.told i l0 bs h0 hb y (hs.subset hy)
theorem new_fine (n pages : Nat) : Fine (Sto.open_ (Dev.new n) 0 pages) (List.replicate pages []) := by
  have hr : ∀ (i : Nat) (l : List Item), (List.replicate pages ([] : List Item))[i]? = some l → l = [] := by
    intro i l hi
    rw [List.getElem?_replicate] at hi
    split at hi
    · injection hi with hi; exact hi.symm
    · cases hi
  refine { home := ?_, apart := ?_, bits := ?_, told := ?_ }
  · intro i l hi x hx; rw [hr i l hi] at hx; cases hx
  · intro i l hi; rw [hr i l hi]; exact List.nodup_nil
  · intro i bs hb
    unfold Sto.open_ at hb
    simp only [List.getElem?_map, List.getElem?_range'] at hb
    cases hi : (List.range pages)[i]? with
    | none => rw [hi] at hb; cases hb
    | some j =>
      rw [hi] at hb
      simp only [Option.map_some, Option.some.injEq] at hb
      subst hb
      have : ∀ (l : List Item) (bs : List Bool), (told l bs).length = bs.length := by
        intro l
        induction l with
        | nil => intro bs; rfl
        | cons x r ih => intro bs; show (told r _).length = _; rw [ih, fadd_length]
      rw [this, List.length_replicate]
  · intro i l bs hi hb x hx; rw [hr i l hi] at hx; cases hx
theorem Fine.may (h : Fine B ls) (hp : ls.length = B.fs.length) {i : Nat} {l : List Item} (hl : ls[i]? = some l) {x : Item} (hx : x ∈ l) : B.may x.key = true := by
  unfold Sto.may
  rw [h.home i l hl x hx]
  have hlt : i < B.fs.length := by rw [← hp]; exact (List.getElem?_eq_some_iff.1 hl).1
  have hb := List.getElem?_eq_getElem hlt
  rw [List.getD_eq_getElem?_getD, hb, Option.getD_some]
  exact h.told i l _ hl hb x hx
/-- a key's item in its bucket -/
theorem find_keyed {l : List Item} (hn : (keys l).Nodup) {x : Item} (hx : x ∈ l) : l.find? (keyed x.key) = some x := by
  induction l with
  | nil => cases hx
  | cons y r ih =>
    simp only [keys, List.map_cons, List.nodup_cons] at hn
    rcases List.mem_cons.1 hx with rfl | hx
    · rw [List.find?_cons_of_pos (by simp [keyed])]
    · rw [List.find?_cons_of_neg]
      · exact ih hn.2 hx
      · simp only [keyed, decide_eq_true_eq]
        intro e
        exact hn.1 (by rw [e]; exact List.mem_map_of_mem (f := (·.key)) hx)
theorem nodup_of_keys {l : List Item} (h : (keys l).Nodup) : l.Nodup := nodup_of_map _ h
theorem mem_flat {y : Item} : y ∈ ls.flatten ↔ ∃ (i : Nat) (l : List Item), ls[i]? = some l ∧ y ∈ l := by
  rw [List.mem_flatten]
  constructor
  · rintro ⟨l, hl, hy⟩
    obtain ⟨i, hi⟩ := List.mem_iff_getElem?.1 hl
    exact ⟨i, l, hi, hy⟩
  · rintro ⟨i, l, hi, hy⟩
    exact ⟨l, List.mem_of_getElem? hi, hy⟩
theorem keys_flat_nodup : ∀ (ls : List (List Item)) (f : ByteArray → Nat) (n : Nat), (∀ (i : Nat) (l : List Item), ls[i]? = some l → (∀ x ∈ l, f x.key = n + i) ∧ (keys l).Nodup) → (keys ls.flatten).Nodup := by
  intro ls
  induction ls with
  | nil => intro f n h; exact List.nodup_nil
  | cons l r ih =>
    intro f n h
    have h0 := h 0 l rfl
    have hr := ih f (n + 1) (fun i l' hi => by
      have := h (i + 1) l' hi
      exact ⟨fun x hx => by rw [this.1 x hx]; omega, this.2⟩)
    unfold keys
    rw [List.flatten_cons, List.map_append, List.nodup_append]
    refine ⟨h0.2, hr, ?_⟩
    rintro a ha b hb rfl
    obtain ⟨x, hx, e1⟩ := List.mem_map.1 ha
    obtain ⟨y, hy, e2⟩ := List.mem_map.1 hb
    obtain ⟨i, l', hi, hy'⟩ := mem_flat.1 hy
    have h1 := h0.1 x hx
    have h2 := (h (i + 1) l' hi).1 y hy'
    rw [e1] at h1
    rw [e2] at h2
    omega
theorem Fine.flat (h : Fine B ls) : (keys ls.flatten).Nodup := keys_flat_nodup ls B.no 0 (fun i l hi => ⟨fun x hx => by rw [Nat.zero_add]; exact h.home i l hi x hx, h.apart i l hi⟩)

/-! BucketKeeps -/
def ridAll (l ys : List Item) : List Item := ys.foldl (fun n y => rid n y.key) l
theorem mem_ridAll : ∀ {ys l : List Item} {y : Item}, y ∈ ridAll l ys ↔ y ∈ l ∧ ∀ z ∈ ys, y.key ≠ z.key := by
  intro ys
  induction ys with
  | nil => intro l y; simp [ridAll]
  | cons z r ih =>
    intro l y
    show y ∈ ridAll (rid l z.key) r ↔ _
    rw [ih, mem_rid]
    simp only [List.mem_cons, forall_eq_or_imp, and_assoc]
theorem ridAll_take {l ys : List Item} {k : Nat} {y : Item} (hy : ys[k]? = some y) : ridAll l (ys.take (k + 1)) = rid (ridAll l (ys.take k)) y.key := by
  unfold ridAll
  rw [List.take_add_one, hy, List.foldl_append]; rfl
theorem keys_ridAll_sub (ys : List Item) : ∀ (l : List Item), (keys (ridAll l ys)).Sublist (keys l) := by
  induction ys with
  | nil => intro l; exact List.Sublist.refl _
  | cons z r ih => intro l; exact (ih _).trans (keys_rid_sub l z.key)
theorem ridAll_len (ys : List Item) (l : List Item) : (ridAll l ys).length ≤ l.length := by
  have := (keys_ridAll_sub ys l).length_le
  simpa [keys] using this
theorem rid_len (l : List Item) (key : ByteArray) : (rid l key).length ≤ l.length := List.length_filter_le _ _
theorem rid_less {l : List Item} {y : Item} (hy : y ∈ l) : (rid l y.key).length < l.length := by
  have h1 := rid_len l y.key
  rcases Nat.lt_or_ge (rid l y.key).length l.length with h | h
  · exact h
  · have := rid_same (l := l) (key := y.key) (by omega)
    rw [← this] at hy
    exact absurd rfl (mem_rid.1 hy).2

/-- what the law counts is what the buckets hold -/
structure Keeps (B : Sto) (ls : List (List Item)) (now : List Item) : Prop where
  fine : Fine B ls
  nodup : (keys now).Nodup
  mem : ∀ y, y ∈ now ↔ y ∈ ls.flatten
theorem Keeps.len {now : List Item} (h : Keeps B ls now) : now.length = ls.flatten.length :=
  ((List.perm_ext_iff_of_nodup (nodup_of_keys h.nodup) (nodup_of_keys h.fine.flat)).2 h.mem).length_eq
theorem Keeps.less {now : List Item} (h : Keeps B ls now) (x : Item) (hx : x.size ≤ 384) {l : List Item} (hl : ls[B.no x.key]? = some l) {k : Nat} {y : Item} (hy : (pout l x)[k]? = some y) :
    (rid (ridAll (rid now x.key) ((pout l x).take k)) y.key).length < (ridAll (rid now x.key) ((pout l x).take k)).length := by
  apply rid_less
  have hmem := List.mem_of_getElem? hy
  have hs := pout_sub hx hmem
  rw [mem_ridAll, mem_rid, h.mem]
  refine ⟨⟨mem_flat.2 ⟨_, l, hl, hs.1⟩, hs.2⟩, ?_⟩
  intro z hz e
  have hn : (keys (pout l x)).Nodup := ((List.take_sublist _ _).map _).nodup (nodup_pnew (h.fine.apart _ _ hl))
  obtain ⟨j, hj⟩ := List.mem_iff_getElem?.1 hz
  rw [List.getElem?_take] at hj
  split at hj
  · rename_i hjk
    have h1 : (keys (pout l x))[j]? = some z.key := by unfold keys; rw [List.getElem?_map, hj]; rfl
    have h2 : (keys (pout l x))[k]? = some y.key := by unfold keys; rw [List.getElem?_map, hy]; rfl
    rw [e] at h2
    have := (List.getElem?_inj (List.getElem?_eq_some_iff.1 h1).1 hn).1 (h1.trans h2.symm)
    omega
  · cases hj
theorem Keeps.put {now : List Item} (h : Keeps B ls now) (x : Item) (hx : x.size ≤ 384) {l : List Item} (hl : ls[B.no x.key]? = some l) :
    Keeps (B.add x) (ls.set (B.no x.key) (pleft l x)) (ridAll (rid now x.key) (pout l x) ++ [x]) := by
  have hlt : B.no x.key < ls.length := (List.getElem?_eq_some_iff.1 hl).1
  have hn := nodup_pnew (x := x) (h.fine.apart _ _ hl)
  refine { fine := h.fine.put x hx hl, nodup := ?_, mem := ?_ }
  · unfold keys
    rw [List.map_append, List.nodup_append]
    refine ⟨((keys_ridAll_sub _ _).trans (keys_rid_sub _ _)).nodup h.nodup, by simp, ?_⟩
    rintro a ha b hb rfl
    simp only [List.map_cons, List.map_nil, List.mem_singleton] at hb
    subst hb
    exact key_not_rid now x.key ((keys_ridAll_sub _ _).subset ha)
  · intro y
    rw [List.mem_append, mem_ridAll, mem_rid, h.mem]
    simp only [List.mem_singleton]
    constructor
    · rintro (⟨⟨h1, h2⟩, h3⟩ | rfl)
      · obtain ⟨i, l', hi, hy⟩ := mem_flat.1 h1
        by_cases hij : B.no x.key = i
        · subst hij
          rw [hl] at hi
          injection hi with hi
          subst hi
          refine mem_flat.2 ⟨_, _, List.getElem?_set_self hlt, ?_⟩
          have h4 : y ∈ pout l x ++ pleft l x := by rw [pnew_split]; exact List.mem_append_left _ (mem_rid.2 ⟨hy, h2⟩)
          rcases List.mem_append.1 h4 with h4 | h4
          · exact absurd rfl (h3 y h4)
          · exact h4
        · exact mem_flat.2 ⟨i, l', by rw [List.getElem?_set_ne hij]; exact hi, hy⟩
      · exact mem_flat.2 ⟨_, _, List.getElem?_set_self hlt, mem_pleft l y hx⟩
    · intro h1
      obtain ⟨i, l', hi, hy⟩ := mem_flat.1 h1
      by_cases hij : B.no x.key = i
      · subst hij
        rw [List.getElem?_set_self hlt] at hi
        injection hi with hi
        subst hi
        rcases pleft_sub hy with rfl | ⟨h2, h3⟩
        · exact .inr rfl
        · refine .inl ⟨⟨mem_flat.2 ⟨_, l, hl, h2⟩, h3⟩, ?_⟩
          intro z hz e
          have hn2 := hn
          rw [← pnew_split] at hn2
          unfold keys at hn2
          rw [List.map_append, List.nodup_append] at hn2
          exact hn2.2.2 _ (List.mem_map_of_mem (f := (·.key)) hz) _ (List.mem_map_of_mem (f := (·.key)) hy) e.symm
      · rw [List.getElem?_set_ne hij] at hi
        have hh := h.fine.home i l' hi y hy
        refine .inl ⟨⟨mem_flat.2 ⟨i, l', hi, hy⟩, ?_⟩, ?_⟩
        · intro e
          rw [e] at hh
          exact hij hh
        · intro z hz e
          have hz2 := h.fine.home _ _ hl z (pout_sub hx hz).1
          rw [e, hz2] at hh
          exact hij hh
theorem new_keeps (n pages : Nat) : Keeps (Sto.open_ (Dev.new n) 0 pages) (List.replicate pages []) [] :=
  { fine := new_fine n pages, nodup := List.nodup_nil, mem := fun y => by simp }
/-- what is there is told -/
theorem Keeps.get {now : List Item} (h : Keeps B ls now) (hp : ls.length = B.fs.length) {y : Item} (hy : y ∈ now) :
    ∃ l, ls[B.no y.key]? = some l ∧ l.find? (keyed y.key) = some y ∧ B.may y.key = true := by
  obtain ⟨i, l, hi, hyl⟩ := mem_flat.1 ((h.mem y).1 hy)
  refine ⟨l, by rw [h.fine.home i l hi y hyl]; exact hi, find_keyed (h.fine.apart i l hi) hyl, h.fine.may hp hi hyl⟩

/-! BucketApart -/
theorem oth_append (a b : List Item) (home : Nat) : oth (a ++ b) home = oth a home ++ oth b home := by simp [oth]
theorem oth_flat_set : ∀ (ls : List (List Item)) (i : Nat) (l' : List Item) (home : Nat), (∀ l, ls[i]? = some l → oth l home = oth l' home) → oth (ls.set i l').flatten home = oth ls.flatten home := by
  intro ls
  induction ls with
  | nil => intro i l' home _; simp
  | cons a r ih =>
    intro i l' home h
    cases i with
    | zero => simp only [List.set_cons_zero, List.flatten_cons, oth_append]; rw [h a rfl]
    | succ i => simp only [List.set_cons_succ, List.flatten_cons, oth_append]; rw [ih i l' home (fun l hl => h l hl)]
theorem oth_none {l : List Item} {home : Nat} (h : ∀ x ∈ l, khash x.key.data.toList % 4 = home) : oth l home = [] := by
  unfold oth
  rw [List.filter_eq_nil_iff]
  intro x hx
  simp [h x hx]
theorem rid_flat_len : ∀ (ls : List (List Item)) (i : Nat) (l' l : List Item), ls[i]? = some l → l'.length ≤ l.length → (ls.set i l').flatten.length ≤ ls.flatten.length := by
  intro ls
  induction ls with
  | nil => intro i l' l h; cases h
  | cons a r ih =>
    intro i l' l h hle
    cases i with
    | zero =>
      simp only [List.getElem?_cons_zero, Option.some.injEq] at h
      subst h
      simp only [List.set_cons_zero, List.flatten_cons, List.length_append]
      omega
    | succ i =>
      have := ih i l' l h hle
      simp only [List.set_cons_succ, List.flatten_cons, List.length_append]
      omega
end
end Go.Proofs.Ytinofdfjaopdcaa
