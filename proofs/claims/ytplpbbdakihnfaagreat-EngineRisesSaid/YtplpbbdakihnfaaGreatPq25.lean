/- Packed texts: LogA, LogB, InvA, EngPa, EngPb. -/
import Derived.Test.YtplpbbdakihnfaaGreatPq19
import Derived.Test.YtplpbbdakihnfaaGreatPq24
import Derived.Test.YtplpbbdakihnfaaGreatPq22
set_option linter.unusedSimpArgs false
set_option linter.unusedVariables false
section
namespace Go.Proofs.YtplpbbdakihnfaaGreat
open Go.RowKit
def keysOf (l : List Item) : List ByteArray := l.map (·.key)
def hasKey (key : ByteArray) (l : List Item) : Bool := l.any fun x => decide (x.key = key)
theorem hasKey_iff (key : ByteArray) (l : List Item) : hasKey key l = true ↔ key ∈ keysOf l := by
  unfold hasKey keysOf
  rw [List.any_eq_true, List.mem_map]
  exact ⟨fun ⟨x, h1, h2⟩ => ⟨x, h1, by simpa using h2⟩, fun ⟨x, h1, h2⟩ => ⟨x, h1, by simpa using h2⟩⟩
theorem hasKey_snoc (key : ByteArray) (l : List Item) (x : Item) : hasKey key (l ++ [x]) = (hasKey key l || decide (x.key = key)) := by
  unfold hasKey
  rw [List.any_append]
  simp
theorem giveT_get (i : Nat) (ks : Keys) (l : List Item) (hn : (akeys ks).Nodup) (k : Nat) (hk : k ≤ l.length) (key : ByteArray) :
    aget (giveT i ks l k).2 key = if hasKey key (giveT i ks l k).1 = true then none else aget ks key := by
  induction k with
  | zero => simp [giveT_zero, hasKey]
  | succ k ih =>
    have ih := ih (by omega)
    have hnd := giveT_nodup i ks l hn k (by omega)
    rw [giveT_succ i ks (List.getElem?_eq_getElem (by omega : k < l.length))]
    unfold giveS
    split
    · rename_i h
      simp only
      rw [aget_adel _ hnd, hasKey_snoc]
      by_cases hx : l[k].key = key
      · rw [if_pos hx, decide_eq_true hx, Bool.or_true, if_pos rfl]
      · rw [if_neg hx, ih, decide_eq_false hx, Bool.or_false]
    · exact ih
theorem giveT_lost (i : Nat) (ks : Keys) (l : List Item) (hn : (akeys ks).Nodup) (k : Nat) (hk : k ≤ l.length) :
    (keysOf (giveT i ks l k).1).Nodup ∧ ∀ x ∈ (giveT i ks l k).1, ∃ j, j < k ∧ l[j]? = some x ∧ aget ks x.key = some ⟨false, i, j⟩ := by
  induction k with
  | zero => exact ⟨by simp [giveT_zero, keysOf], fun x hx => by simp [giveT_zero] at hx⟩
  | succ k ih =>
    obtain ⟨ih1, ih2⟩ := ih (by omega)
    have hlt : k < l.length := by omega
    rw [giveT_succ i ks (List.getElem?_eq_getElem hlt)]
    unfold giveS
    split
    · rename_i h
      simp only at h
      have hg := giveT_get i ks l hn k (by omega) l[k].key
      rw [h] at hg
      have hno : l[k].key ∉ keysOf (giveT i ks l k).1 := fun hm => by rw [if_pos ((hasKey_iff _ _).2 hm)] at hg; cases hg
      rw [if_neg (fun hh => hno ((hasKey_iff _ _).1 hh))] at hg
      refine ⟨?_, fun x hx => ?_⟩
      · simp only [keysOf, List.map_append, List.map_cons, List.map_nil] at ih1 hno ⊢
        rw [List.nodup_append]
        refine ⟨ih1, by simp, fun a ha b hb => ?_⟩
        simp only [List.mem_singleton] at hb
        rw [hb]
        rintro rfl
        exact hno ha
      · rcases List.mem_append.1 hx with hx | hx
        · obtain ⟨j, h1, h2⟩ := ih2 x hx
          exact ⟨j, by omega, h2⟩
        · simp only [List.mem_singleton] at hx
          subst hx
          exact ⟨k, by omega, List.getElem?_eq_getElem hlt, hg.symm⟩
    · refine ⟨ih1, fun x hx => ?_⟩
      obtain ⟨j, h1, h2⟩ := ih2 x hx
      exact ⟨j, by omega, h2⟩
def Lg.view (G : Lg) (key : ByteArray) : Option Item := (aget G.keys key).map G.item
theorem Lg.get_view (G : Lg) (key : ByteArray) : G.get key = (G.view key).getD Item.zero ∧ G.getE key = if (G.view key).isSome then 0 else 5 := by
  unfold Lg.get Lg.getE Lg.has Lg.view
  cases aget G.keys key <;> simp
theorem Lg.view_add (G : Lg) (ho : G.Ok) (x : Item) (key : ByteArray) : (G.add x).view key = if x.key = key then some x else G.view key := by
  unfold Lg.view
  show (aget (aset G.keys x.key ⟨true, 0, G.opn.length⟩) key).map (G.add x).item = _
  rw [aget_aset]
  split
  · simp [Lg.item, Lg.add]
  · cases h : aget G.keys key with
    | none => rfl
    | some p =>
      simp only [Option.map_some, Option.some.injEq]
      have := ho.keys key p h
      unfold Lg.plOk at this
      unfold Lg.item
      split
      · rename_i hop
        rw [if_pos hop] at this
        obtain ⟨_, y, hy, _⟩ := this
        have hlt := (List.getElem?_eq_some_iff.1 hy).1
        show (G.opn ++ [x]).getD p.ix Item.zero = _
        rw [List.getD_eq_getElem?_getD, List.getD_eq_getElem?_getD, List.getElem?_append_left hlt]
      · rfl
theorem Lg.view_key {G : Lg} (ho : G.Ok) {key : ByteArray} {x : Item} (h : G.view key = some x) : x.key = key := by
  unfold Lg.view at h
  cases hp : aget G.keys key with
  | none => rw [hp] at h; cases h
  | some p =>
    rw [hp] at h
    simp only [Option.map_some, Option.some.injEq] at h
    have := ho.keys key p hp
    unfold Lg.plOk at this
    unfold Lg.item at h
    split at this
    · rename_i hop
      rw [if_pos hop] at h
      obtain ⟨_, y, hy, hk⟩ := this
      rw [List.getD_eq_getElem?_getD, hy] at h
      rw [← h]; exact hk
    · rename_i hop
      rw [if_neg hop] at h
      obtain ⟨S, y, hS, hy, hk⟩ := this
      unfold rl at h
      rw [List.getD_eq_getElem?_getD, List.getD_eq_getElem?_getD, hS] at h
      simp only [Option.getD_some] at h
      rw [hy] at h
      rw [← h]; exact hk
theorem Lg.view_shut (G : Lg) (ho : G.Ok) (hn : (akeys G.keys).Nodup) (key : ByteArray) : G.shut.view key = if hasKey key G.given.1 = true then none else G.view key := by
  have hi : G.next < G.regs.length := Nat.mod_lt _ ho.pos
  have hg := ho.gave hn hi
  have hv : ∀ key p, aget G.given.2 key = some p → p.op = true → p.rg = 0 ∧ ∃ x, G.opn[p.ix]? = some x ∧ x.key = key := by
    intro key p hp hop
    have := hg.keys key p hp
    unfold Lg.plOk at this
    rw [if_pos hop] at this
    exact this
  have hget : aget G.given.2 key = if hasKey key G.given.1 = true then none else aget G.keys key := by
    unfold Lg.given
    rw [← giveT_all]
    exact giveT_get _ _ _ hn _ (Nat.le_refl _) key
  unfold Lg.view
  show (aget (moveK G.next G.given.2 G.opn) key).map G.shut.item = _
  rw [← moveT_all, moveT_get _ _ _ hv _ (Nat.le_refl _)]
  by_cases hm : hasKey key G.given.1 = true
  · rw [hget, if_pos hm, if_pos hm]; rfl
  · rw [if_neg hm] at hget ⊢
    rw [hget]
    cases hp : aget G.keys key with
    | none => rfl
    | some p =>
      simp only [Option.map_some, Option.some.injEq]
      have hgp : aget G.given.2 key = some p := by rw [hget, hp]
      have hok := hg.keys key p hgp
      unfold Lg.plOk at hok
      by_cases hop : p.op = true
      · rw [if_pos hop] at hok
        obtain ⟨_, x, hx, _⟩ := hok
        have hlt : p.ix < G.opn.length := (List.getElem?_eq_some_iff.1 hx).1
        have e : moved G.next G.opn.length p = ⟨false, G.next, p.ix⟩ := by unfold moved; rw [if_pos ⟨hop, hlt⟩]
        rw [e]
        unfold Lg.item
        rw [if_pos hop]
        simp only [Bool.false_eq_true, if_false]
        unfold rl Lg.shut
        simp only
        rw [List.getD_eq_getElem?_getD (l := (G.regs.set G.next Sealed.no).set G.next _), List.getElem?_set, if_pos rfl, if_pos (by simpa using hi)]
        rfl
      · have e : moved G.next G.opn.length p = p := by unfold moved; rw [if_neg (fun hh => hop hh.1)]
        rw [e]
        rw [if_neg hop] at hok
        obtain ⟨S, x, hS, hx, _⟩ := hok
        have hne : G.next ≠ p.rg := by
          intro e
          simp only at hS
          rw [List.getElem?_set, if_pos e, if_pos hi] at hS
          injection hS with hS
          subst hS
          simp [Sealed.no] at hx
        unfold Lg.item
        rw [if_neg hop, if_neg hop]
        unfold rl Lg.shut
        simp only
        rw [List.getD_eq_getElem?_getD (l := (G.regs.set G.next Sealed.no).set G.next _), List.getElem?_set, if_neg hne, List.getElem?_set, if_neg hne, ← List.getD_eq_getElem?_getD]
def regPl (G : Lg) (i : Nat) : List (Item × Pl) := (rl G.regs i).zipIdx.map fun p => (p.1, ⟨false, i, p.2⟩)
def opnPl (G : Lg) : List (Item × Pl) := G.opn.zipIdx.map fun p => (p.1, ⟨true, 0, p.2⟩)
def allPl (G : Lg) : List (Item × Pl) := (byNum G.regs).flatMap (regPl G) ++ opnPl G
def plGood (G : Lg) (q : Item × Pl) : Bool := decide (aget G.keys q.1.key = some q.2)
theorem pick_pl (ks : Keys) (pl : Nat → Pl) (l : List Item) : pick ks pl l = ((l.zipIdx.map fun p => (p.1, pl p.2)).filter fun q => decide (aget ks q.1.key = some q.2)).map (·.1) := by
  unfold pick
  rw [List.filter_map, List.map_map]
  rfl
theorem items_pl (G : Lg) : G.items = ((allPl G).filter (plGood G)).map (·.1) := by
  unfold Lg.items allPl
  rw [List.filter_append, List.map_append, pick_pl G.keys _ G.opn]
  congr 1
  induction byNum G.regs with
  | nil => rfl
  | cons i r ih =>
    rw [List.flatMap_cons, List.flatMap_cons, List.filter_append, List.map_append, ih, pick_pl]
    rfl
theorem byNum_mem {regs : List Sealed} {i : Nat} (hi : i < regs.length) (h0 : 0 < rnum regs i) : i ∈ byNum regs := by
  unfold byNum sortR
  rw [List.mem_reverse]
  exact (insL_mem (rnum regs) i (counts regs)).2 (List.mem_filter.2 ⟨List.mem_range.2 hi, by simpa using h0⟩)
end Go.Proofs.YtplpbbdakihnfaaGreat
end

section
namespace Go.Proofs.YtplpbbdakihnfaaGreat
open Go.RowKit
def Lg.Has (G : Lg) (key : ByteArray) (p : Pl) : Prop :=
  ∃ x : Item, x.key = key ∧ ((p.op = true ∧ p.rg = 0 ∧ G.opn[p.ix]? = some x) ∨ (p.op = false ∧ 0 < rnum G.regs p.rg ∧ (rl G.regs p.rg)[p.ix]? = some x))
def Lg.rank (G : Lg) (p : Pl) : Nat := if p.op then G.number + 1 else rnum G.regs p.rg
def Lg.elder (G : Lg) (q p : Pl) : Prop := G.rank q < G.rank p ∨ (G.rank q = G.rank p ∧ q.ix ≤ p.ix)
structure Fresh (G : Lg) : Prop where
  non : ∀ key, aget G.keys key = none → ∀ p, ¬ G.Has key p
  som : ∀ key p, aget G.keys key = some p → G.Has key p ∧ ∀ q, G.Has key q → G.elder q p
def Nums (G : Lg) : Prop := ∀ i, 0 < rnum G.regs i → rnum G.regs i % G.regs.length = i ∧ rnum G.regs i ≤ G.number ∧ G.number < rnum G.regs i + G.regs.length
theorem elder_antisymm {G : Lg} (hn : Nums G) {key : ByteArray} {p q : Pl} (hp : G.Has key p) (hq : G.Has key q) (h1 : G.elder p q) (h2 : G.elder q p) : p = q := by
  have hr : G.rank p = G.rank q ∧ p.ix = q.ix := by
    unfold Lg.elder at h1 h2
    omega
  obtain ⟨pop, prg, pix⟩ := p
  obtain ⟨qop, qrg, qix⟩ := q
  obtain ⟨hr, rfl⟩ := hr
  unfold Lg.rank at hr
  obtain ⟨x, _, hx⟩ := hp
  obtain ⟨y, _, hy⟩ := hq
  cases pop with
  | true =>
    cases qop with
    | true =>
      rcases hx with ⟨_, rfl, _⟩ | ⟨h, _⟩
      · rcases hy with ⟨_, rfl, _⟩ | ⟨h, _⟩
        · rfl
        · cases h
      · cases h
    | false =>
      rcases hy with ⟨h, _⟩ | ⟨_, h, _⟩
      · cases h
      · have a1 : rnum G.regs qrg ≤ G.number := (hn _ h).2.1
        have hr' : G.number + 1 = rnum G.regs qrg := hr
        omega
  | false =>
    rcases hx with ⟨h, _⟩ | ⟨_, h, _⟩
    · cases h
    · have a1 : rnum G.regs prg % G.regs.length = prg ∧ rnum G.regs prg ≤ G.number ∧ _ := hn _ h
      cases qop with
      | true =>
        have hr' : rnum G.regs prg = G.number + 1 := hr
        omega
      | false =>
        have hr' : rnum G.regs prg = rnum G.regs qrg := hr
        rcases hy with ⟨h', _⟩ | ⟨_, h', _⟩
        · cases h'
        · have a2 : rnum G.regs qrg % G.regs.length = qrg ∧ _ := hn _ h'
          have e : prg = qrg := by rw [← a1.1, ← a2.1, hr']
          rw [e]
theorem Fresh.same {G G' : Lg} (hn : Nums G) (h : Fresh G) (h' : Fresh G') (hr : G'.regs = G.regs) (ho : G.opn = []) (ho' : G'.opn = []) (key : ByteArray) : aget G'.keys key = aget G.keys key := by
  have hH : ∀ k p, G'.Has k p ↔ G.Has k p := by
    intro k p
    unfold Lg.Has
    rw [hr, ho, ho']
  have hop : ∀ k p, G.Has k p → p.op = false := by
    rintro k p ⟨x, _, ⟨_, _, hx⟩ | ⟨hx, _⟩⟩
    · rw [ho] at hx; simp at hx
    · exact hx
  have hE : ∀ k p q, G.Has k p → G.Has k q → G'.elder q p → G.elder q p := by
    intro k p q h1 h2 he
    have r1 : G'.rank p = G.rank p := by unfold Lg.rank; rw [hop _ _ h1, hr]; rfl
    have r2 : G'.rank q = G.rank q := by unfold Lg.rank; rw [hop _ _ h2, hr]; rfl
    unfold Lg.elder at he ⊢
    rw [r1, r2] at he
    exact he
  cases hk : aget G.keys key with
  | none =>
    cases hk' : aget G'.keys key with
    | none => rfl
    | some p => exact absurd ((hH _ _).1 (h'.som _ _ hk').1) (h.non _ hk p)
  | some p =>
    obtain ⟨hp, hmax⟩ := h.som _ _ hk
    cases hk' : aget G'.keys key with
    | none => exact absurd ((hH _ _).2 hp) (h'.non _ hk' p)
    | some p' =>
      obtain ⟨hp', hmax'⟩ := h'.som _ _ hk'
      have hp2 := (hH _ _).1 hp'
      rw [elder_antisymm hn hp2 hp (hmax _ hp2) (hE _ _ _ hp2 hp (hmax' _ ((hH _ _).2 hp)))]
theorem Fresh.add {G : Lg} (hn : Nums G) (h : Fresh G) (x : Item) : Fresh (G.add x) ∧ Nums (G.add x) := by
  have hH : ∀ key q, x.key ≠ key → (G.add x).Has key q → G.Has key q := by
    rintro key q hne ⟨y, hy, ⟨h1, h2, h3⟩ | h⟩
    · have h3' : (G.opn ++ [x])[q.ix]? = some y := h3
      rcases Nat.lt_or_ge q.ix G.opn.length with hlt | hge
      · rw [List.getElem?_append_left hlt] at h3'
        exact ⟨y, hy, .inl ⟨h1, h2, h3'⟩⟩
      · rw [List.getElem?_append_right hge] at h3'
        rcases Nat.eq_or_lt_of_le hge with e | e
        · rw [← e] at h3'
          simp at h3'
          exact absurd (by rw [h3']; exact hy) hne
        · rw [List.getElem?_eq_none (by simp; omega)] at h3'
          cases h3'
    · exact ⟨y, hy, .inr h⟩
  have hH2 : ∀ key q, G.Has key q → (G.add x).Has key q := by
    rintro key q ⟨y, hy, ⟨h1, h2, h3⟩ | h⟩
    · refine ⟨y, hy, .inl ⟨h1, h2, ?_⟩⟩
      show (G.opn ++ [x])[q.ix]? = some y
      rw [List.getElem?_append_left (List.getElem?_eq_some_iff.1 h3).1]
      exact h3
    · exact ⟨y, hy, .inr h⟩
  refine ⟨⟨fun key hk p hp => ?_, fun key p hk => ?_⟩, hn⟩
  · have hk' : aget (aset G.keys x.key ⟨true, 0, G.opn.length⟩) key = none := hk
    rw [aget_aset] at hk'
    split at hk'
    · cases hk'
    · rename_i hne
      exact h.non _ hk' p (hH _ _ hne hp)
  · have hk' : aget (aset G.keys x.key ⟨true, 0, G.opn.length⟩) key = some p := hk
    rw [aget_aset] at hk'
    split at hk'
    · rename_i he
      injection hk' with hk'
      subst hk'
      refine ⟨⟨x, he, .inl ⟨rfl, rfl, ?_⟩⟩, fun q hq => ?_⟩
      · show (G.opn ++ [x])[G.opn.length]? = some x
        rw [List.getElem?_append_right (Nat.le_refl _), Nat.sub_self]; rfl
      · obtain ⟨y, hy, ⟨h1, h2, h3⟩ | ⟨h1, h2, h3⟩⟩ := hq
        · have hl := (List.getElem?_eq_some_iff.1 h3).1
          have hl' : q.ix < (G.opn ++ [x]).length := hl
          rw [List.length_append] at hl'
          simp only [List.length_singleton] at hl'
          right
          refine ⟨?_, by show q.ix ≤ G.opn.length; omega⟩
          unfold Lg.rank
          rw [h1]; rfl
        · left
          have := (hn _ h2).2.1
          unfold Lg.rank
          rw [h1]
          show rnum G.regs q.rg < G.number + 1
          omega
    · rename_i hne
      obtain ⟨hp, hm⟩ := h.som _ _ hk'
      exact ⟨hH2 _ _ hp, fun q hq => hm q (hH _ _ hne hq)⟩
theorem rnum_shut (G : Lg) (hp : 0 < G.regs.length) (i : Nat) : rnum G.shut.regs i = if i = G.next then G.number + 1 else rnum G.regs i := by
  have hi : G.next < G.regs.length := Nat.mod_lt _ hp
  unfold rnum Lg.shut
  simp only
  by_cases h : i = G.next
  · rw [if_pos h, h, List.getD_eq_getElem?_getD, List.getElem?_set_self (by simpa using hi)]; rfl
  · rw [if_neg h, List.getD_eq_getElem?_getD, List.getElem?_set_ne (Ne.symm h), List.getElem?_set_ne (Ne.symm h), ← List.getD_eq_getElem?_getD]
theorem rl_shut (G : Lg) (hp : 0 < G.regs.length) (i : Nat) : rl G.shut.regs i = if i = G.next then G.opn else rl G.regs i := by
  have hi : G.next < G.regs.length := Nat.mod_lt _ hp
  unfold rl Lg.shut
  simp only
  by_cases h : i = G.next
  · rw [if_pos h, h, List.getD_eq_getElem?_getD, List.getElem?_set_self (by simpa using hi)]; rfl
  · rw [if_neg h, List.getD_eq_getElem?_getD, List.getElem?_set_ne (Ne.symm h), List.getElem?_set_ne (Ne.symm h), ← List.getD_eq_getElem?_getD]
theorem len_shut (G : Lg) : G.shut.regs.length = G.regs.length := by simp [Lg.shut]
theorem mod_next {m N r : Nat} (h1 : m % r = (N + 1) % r) (h2 : m ≤ N) (h3 : N < m + r) : m + r = N + 1 := by
  have h4 : (N + 1 - m) % r = 0 := by
    have := Nat.sub_mod_eq_zero_of_mod_eq h1.symm
    exact this
  have h5 : 0 < N + 1 - m := by omega
  have h6 : N + 1 - m ≤ r := by omega
  have h7 := Nat.le_of_dvd h5 (Nat.dvd_of_mod_eq_zero h4)
  omega
theorem Nums.shut {G : Lg} (hp : 0 < G.regs.length) (hn : Nums G) : Nums G.shut := by
  intro i hi
  rw [rnum_shut G hp] at hi ⊢
  rw [len_shut]
  show (if i = G.next then G.number + 1 else rnum G.regs i) % G.regs.length = i ∧ _ ≤ G.number + 1 ∧ G.number + 1 < _
  by_cases h : i = G.next
  · rw [if_pos h]
    exact ⟨by rw [h]; rfl, Nat.le_refl _, by omega⟩
  · rw [if_neg h] at hi ⊢
    have := hn i hi
    refine ⟨this.1, by omega, ?_⟩
    rcases Nat.lt_or_ge (G.number + 1) (rnum G.regs i + G.regs.length) with h1 | h1
    · exact h1
    · exfalso
      have e : G.number + 1 = rnum G.regs i + G.regs.length := by omega
      apply h
      rw [← this.1]
      unfold Lg.next
      rw [e, Nat.add_mod_right]
theorem given_get (G : Lg) (ho : G.Ok) (hn : (akeys G.keys).Nodup) (key : ByteArray) : aget G.given.2 key = match aget G.keys key with
    | none => none
    | some p => if p.op = false ∧ p.rg = G.next then none else some p := by
  have hi : G.next < G.regs.length := Nat.mod_lt _ ho.pos
  have hv : ∀ key k, aget G.keys key = some ⟨false, G.next, k⟩ → ∃ x, (rl G.regs G.next)[k]? = some x ∧ x.key = key := by
    intro key k hk
    have := ho.keys key _ hk
    unfold Lg.plOk at this
    simp only [Bool.false_eq_true, if_false] at this
    obtain ⟨S, x, hS, hx, hxk⟩ := this
    refine ⟨x, ?_, hxk⟩
    unfold rl
    rw [List.getD_eq_getElem?_getD, hS]
    exact hx
  have hget := giveT_get G.next G.keys (rl G.regs G.next) hn _ (Nat.le_refl _) key
  have hnone := giveT_none G.next G.keys (rl G.regs G.next) hn hv _ (Nat.le_refl _)
  have hlost := (giveT_lost G.next G.keys (rl G.regs G.next) hn _ (Nat.le_refl _)).2
  have hsub := giveT_sub G.next G.keys (rl G.regs G.next) hn _ (Nat.le_refl _)
  rw [giveT_all] at hget hnone hlost hsub
  change ∀ x ∈ G.given.1, _ at hlost
  change aget G.given.2 key = if hasKey key G.given.1 = true then none else aget G.keys key at hget
  change ∀ key j, aget G.given.2 key = some ⟨false, G.next, j⟩ → _ at hnone
  cases hk : aget G.keys key with
  | none =>
    rw [hk] at hget
    rw [hget]
    simp
  | some p =>
    simp only
    by_cases hpn : p.op = false ∧ p.rg = G.next
    · rw [if_pos hpn]
      obtain ⟨pop, prg, pix⟩ := p
      simp only at hpn
      obtain ⟨rfl, rfl⟩ := hpn
      cases hg : aget G.given.2 key with
      | none => rfl
      | some p' =>
        have hs := hsub key p' hg
        rw [hk] at hs
        injection hs with hs
        subst hs
        have h1 := hnone _ _ hg
        obtain ⟨x, hx, _⟩ := hv _ _ hk
        have h2 := (List.getElem?_eq_some_iff.1 hx).1
        omega
    · rw [if_neg hpn]
      rw [hk] at hget
      rw [hget, if_neg]
      intro hh
      obtain ⟨y, hy, hyk⟩ := List.mem_map.1 ((hasKey_iff _ _).1 hh)
      obtain ⟨j, _, _, hj⟩ := hlost y hy
      rw [hyk, hk] at hj
      injection hj with hj
      subst hj
      exact hpn ⟨rfl, rfl⟩
theorem shut_get (G : Lg) (ho : G.Ok) (hn : (akeys G.keys).Nodup) (key : ByteArray) : aget G.shut.keys key = match aget G.keys key with
    | none => none
    | some p => if p.op = true then some ⟨false, G.next, p.ix⟩ else if p.rg = G.next then none else some p := by
  have hi : G.next < G.regs.length := Nat.mod_lt _ ho.pos
  have hg := ho.gave hn hi
  have hv : ∀ key p, aget G.given.2 key = some p → p.op = true → p.rg = 0 ∧ ∃ x, G.opn[p.ix]? = some x ∧ x.key = key := by
    intro key p hp hop
    have := hg.keys key p hp
    unfold Lg.plOk at this
    rw [if_pos hop] at this
    exact this
  show aget (moveK G.next G.given.2 G.opn) key = _
  rw [← moveT_all, moveT_get _ _ _ hv _ (Nat.le_refl _), given_get G ho hn]
  cases hk : aget G.keys key with
  | none => rfl
  | some p =>
    simp only
    have hok := ho.keys key p hk
    unfold Lg.plOk at hok
    by_cases hop : p.op = true
    · rw [if_pos hop] at hok
      obtain ⟨_, x, hx, _⟩ := hok
      have hlt := (List.getElem?_eq_some_iff.1 hx).1
      rw [if_neg (fun hh => by rw [hop] at hh; cases hh.1), if_pos hop]
      simp [moved, hop, hlt]
    · have hop' : p.op = false := by simpa using hop
      rw [if_neg hop]
      by_cases hr : p.rg = G.next
      · rw [if_pos hr, if_pos ⟨hop', hr⟩]; rfl
      · rw [if_neg hr, if_neg (fun hh => hr hh.2)]
        simp [moved, hop']
theorem Fresh.shut {G : Lg} (ho : G.Ok) (hd : (akeys G.keys).Nodup) (hn : Nums G) (h : Fresh G) : Fresh G.shut := by
  have hp := ho.pos
  have hopn : ∀ key q, G.shut.Has key q → q.op = false ∧ ((q.rg = G.next ∧ G.Has key ⟨true, 0, q.ix⟩) ∨ (q.rg ≠ G.next ∧ G.Has key q)) := by
    rintro key q ⟨y, hy, ⟨h1, h2, h3⟩ | ⟨h1, h2, h3⟩⟩
    · have h3' : ([] : List Item)[q.ix]? = some y := h3
      simp at h3'
    · refine ⟨h1, ?_⟩
      rw [rnum_shut G hp] at h2
      rw [rl_shut G hp] at h3
      by_cases hq : q.rg = G.next
      · rw [if_pos hq] at h3
        exact .inl ⟨hq, y, hy, .inl ⟨rfl, rfl, h3⟩⟩
      · rw [if_neg hq] at h2 h3
        exact .inr ⟨hq, y, hy, .inr ⟨h1, h2, h3⟩⟩
  have hrk : ∀ q : Pl, q.op = false → G.shut.rank q = if q.rg = G.next then G.number + 1 else rnum G.regs q.rg := by
    intro q hq
    unfold Lg.rank
    rw [hq, if_neg (by simp), rnum_shut G hp]
  have hrkG : ∀ q : Pl, q.op = false → G.rank q = rnum G.regs q.rg := by
    intro q hq
    unfold Lg.rank
    rw [hq, if_neg (by simp)]
  refine ⟨fun key hk q hq => ?_, fun key p1 hk => ?_⟩
  · rw [shut_get G ho hd] at hk
    obtain ⟨hqo, hq⟩ := hopn key q hq
    cases hg : aget G.keys key with
    | none =>
      rcases hq with ⟨_, hq⟩ | ⟨_, hq⟩
      · exact h.non _ hg _ hq
      · exact h.non _ hg _ hq
    | some p =>
      rw [hg] at hk
      simp only at hk
      split at hk
      · cases hk
      · rename_i hop
        have hop' : p.op = false := by simpa using hop
        split at hk
        · rename_i hrg
          obtain ⟨⟨x, _, hx⟩, hmax⟩ := h.som _ _ hg
          rcases hx with ⟨h1, _⟩ | ⟨_, h2, _⟩
          · rw [hop'] at h1; cases h1
          · have hnm := hn _ h2
            rcases hq with ⟨_, hq⟩ | ⟨hne, hq⟩
            · have := hmax _ hq
              unfold Lg.elder at this
              rw [hrkG p hop'] at this
              have e : G.rank ⟨true, 0, q.ix⟩ = G.number + 1 := rfl
              rw [e] at this
              omega
            · have := hmax _ hq
              unfold Lg.elder at this
              rw [hrkG p hop', hrkG q hqo] at this
              obtain ⟨y, _, hy⟩ := hq
              rcases hy with ⟨h1, _⟩ | ⟨_, h3, _⟩
              · rw [hqo] at h1; cases h1
              · have hnq := hn _ h3
                have h5 : rnum G.regs p.rg % G.regs.length = (G.number + 1) % G.regs.length := by rw [hnm.1, hrg]; rfl
                have h6 := mod_next h5 hnm.2.1 hnm.2.2
                have h7 : rnum G.regs q.rg = rnum G.regs p.rg := by omega
                apply hne
                rw [← hnq.1, h7, hnm.1]
                exact hrg
        · cases hk
  · rw [shut_get G ho hd] at hk
    cases hg : aget G.keys key with
    | none => rw [hg] at hk; cases hk
    | some p =>
      rw [hg] at hk
      simp only at hk
      obtain ⟨⟨x, hxk, hx⟩, hmax⟩ := h.som _ _ hg
      by_cases hop : p.op = true
      · rw [if_pos hop] at hk
        injection hk with hk
        subst hk
        rcases hx with ⟨_, _, hx⟩ | ⟨h1, _⟩
        · refine ⟨⟨x, hxk, .inr ⟨rfl, ?_, ?_⟩⟩, fun q hq => ?_⟩
          · rw [rnum_shut G hp, if_pos rfl]; omega
          · rw [rl_shut G hp, if_pos rfl]; exact hx
          · obtain ⟨hqo, hq⟩ := hopn key q hq
            unfold Lg.elder
            rw [hrk q hqo, hrk _ rfl, if_pos rfl]
            rcases hq with ⟨hr, hq⟩ | ⟨hr, hq⟩
            · rw [if_pos hr]
              right
              refine ⟨rfl, ?_⟩
              have := hmax _ hq
              unfold Lg.elder Lg.rank at this
              rw [hop] at this
              simp only [if_true] at this
              show q.ix ≤ p.ix
              omega
            · rw [if_neg hr]
              left
              obtain ⟨y, _, hy⟩ := hq
              rcases hy with ⟨h1, _⟩ | ⟨_, h3, _⟩
              · rw [hqo] at h1; cases h1
              · have := (hn _ h3).2.1; omega
        · rw [hop] at h1; cases h1
      · rw [if_neg hop] at hk
        have hop' : p.op = false := by simpa using hop
        split at hk
        · cases hk
        · rename_i hrg
          injection hk with hk
          subst hk
          rcases hx with ⟨h1, _⟩ | ⟨_, h2, h3⟩
          · exact absurd h1 hop
          · refine ⟨⟨x, hxk, .inr ⟨hop', ?_, ?_⟩⟩, fun q hq => ?_⟩
            · rw [rnum_shut G hp, if_neg hrg]; exact h2
            · rw [rl_shut G hp, if_neg hrg]; exact h3
            · obtain ⟨hqo, hq⟩ := hopn key q hq
              unfold Lg.elder
              rw [hrk q hqo, hrk _ hop', if_neg hrg]
              rcases hq with ⟨hr, hq⟩ | ⟨hr, hq⟩
              · exfalso
                have := hmax _ hq
                unfold Lg.elder at this
                rw [hrkG p hop'] at this
                have e : G.rank ⟨true, 0, q.ix⟩ = G.number + 1 := rfl
                rw [e] at this
                have := (hn _ h2).2.1
                omega
              · rw [if_neg hr]
                have := hmax _ hq
                unfold Lg.elder at this
                rw [hrkG p hop', hrkG q hqo] at this
                exact this
theorem insR_desc (f : Nat → Nat) (x : Nat) (l : List Nat) (h : l.Pairwise fun a b => f b ≤ f a) : (insR f x l).Pairwise fun a b => f b ≤ f a := by
  induction l with
  | nil => simp [insR]
  | cons y r ih =>
    rw [List.pairwise_cons] at h
    rw [insR]
    split
    · rename_i hlt
      rw [List.pairwise_cons]
      refine ⟨fun z hz => ?_, ih h.2⟩
      rcases (insR_mem f x z r).1 hz with e | e
      · rw [e]; omega
      · exact h.1 z e
    · rename_i hge
      rw [List.pairwise_cons, List.pairwise_cons]
      refine ⟨fun z hz => ?_, h⟩
      rcases List.mem_cons.1 hz with e | e
      · rw [e]; omega
      · have := h.1 z e; omega
theorem byNum_sorted (regs : List Sealed) : (byNum regs).Pairwise fun a b => rnum regs a ≤ rnum regs b := by
  have hd : ∀ l : List Nat, (insL (rnum regs) l).Pairwise fun a b => rnum regs b ≤ rnum regs a := by
    intro l
    rw [← List.reverse_reverse l]
    generalize l.reverse = m
    induction m with
    | nil => simp [insL]
    | cons x r ih =>
      rw [List.reverse_cons, insL_snoc]
      exact insR_desc _ _ _ ih
  exact List.pairwise_reverse.2 (hd _)
theorem byNum_pos {regs : List Sealed} {i : Nat} (h : i ∈ byNum regs) : 0 < rnum regs i := by
  unfold byNum sortR at h
  rw [List.mem_reverse] at h
  have := (insL_mem (rnum regs) i (counts regs)).1 h
  simpa using (List.mem_filter.1 this).2
theorem layK_snoc (i : Nat) (ks : Keys) (l : List Item) (x : Item) : layK i ks (l ++ [x]) = aset (layK i ks l) x.key ⟨false, i, l.length⟩ := by
  unfold layK
  rw [List.zipIdx_append, List.foldl_append]
  simp
theorem layK_at (i : Nat) (ks : Keys) (key : ByteArray) (l : List Item) :
    (∃ (j : Nat) (x : Item), l[j]? = some x ∧ x.key = key ∧ (∀ (j' : Nat) (x' : Item), l[j']? = some x' → x'.key = key → j' ≤ j) ∧ aget (layK i ks l) key = some ⟨false, i, j⟩) ∨ ((∀ (j : Nat) (x : Item), l[j]? = some x → x.key ≠ key) ∧ aget (layK i ks l) key = aget ks key) := by
  rw [← List.reverse_reverse l]
  generalize l.reverse = m
  induction m with
  | nil => exact .inr ⟨fun j x h => by simp at h, rfl⟩
  | cons y r ih =>
    rw [List.reverse_cons]
    generalize r.reverse = l at ih
    rw [layK_snoc, aget_aset]
    have hget : ∀ (j : Nat) (x : Item), (l ++ [y])[j]? = some x → (l[j]? = some x) ∨ (j = l.length ∧ x = y) := by
      intro j x h
      rcases Nat.lt_or_ge j l.length with hlt | hge
      · rw [List.getElem?_append_left hlt] at h; exact .inl h
      · rw [List.getElem?_append_right hge] at h
        rcases Nat.eq_or_lt_of_le hge with e | e
        · rw [← e] at h
          simp at h
          exact .inr ⟨e.symm, h.symm⟩
        · rw [List.getElem?_eq_none (by simp; omega)] at h
          cases h
    by_cases hy : y.key = key
    · rw [if_pos hy]
      refine .inl ⟨l.length, y, by rw [List.getElem?_append_right (Nat.le_refl _), Nat.sub_self]; rfl, hy, fun j' x' h _ => ?_, rfl⟩
      rcases hget j' x' h with h | h
      · exact Nat.le_of_lt (List.getElem?_eq_some_iff.1 h).1
      · omega
    · rw [if_neg hy]
      rcases ih with ⟨j, x, h1, h2, h3, h4⟩ | ⟨h1, h2⟩
      · refine .inl ⟨j, x, by rw [List.getElem?_append_left (List.getElem?_eq_some_iff.1 h1).1]; exact h1, h2, fun j' x' h hx' => ?_, h4⟩
        rcases hget j' x' h with h | ⟨_, h⟩
        · exact h3 j' x' h hx'
        · rw [h] at hx'; exact absurd hx' hy
      · refine .inr ⟨fun j x h hx => ?_, h2⟩
        rcases hget j x h with h | ⟨_, h⟩
        · exact h1 j x h hx
        · rw [h] at hx; exact hy hx
theorem opened_at (regs : List Sealed) (key : ByteArray) (L : List Nat) (hs : L.Pairwise fun a b => rnum regs a ≤ rnum regs b) :
    (aget (L.foldl (fun ks i => layK i ks (rl regs i)) []) key = none ∧ ∀ i ∈ L, ∀ (j : Nat) (x : Item), (rl regs i)[j]? = some x → x.key ≠ key) ∨
      ∃ (i j : Nat) (x : Item), aget (L.foldl (fun ks i => layK i ks (rl regs i)) []) key = some ⟨false, i, j⟩ ∧ i ∈ L ∧ (rl regs i)[j]? = some x ∧ x.key = key ∧ ∀ i' ∈ L, ∀ (j' : Nat) (x' : Item), (rl regs i')[j']? = some x' → x'.key = key → rnum regs i' ≤ rnum regs i ∧ (i' = i → j' ≤ j) := by
  rw [← List.reverse_reverse L] at hs ⊢
  generalize L.reverse = m at hs ⊢
  induction m with
  | nil => exact .inl ⟨rfl, fun i hi => by simp at hi⟩
  | cons y r ih =>
    rw [List.reverse_cons] at hs ⊢
    generalize r.reverse = L at ih hs ⊢
    rw [List.pairwise_append] at hs
    have ih := ih hs.1
    rw [List.foldl_append]
    simp only [List.foldl_cons, List.foldl_nil]
    rcases layK_at y (L.foldl (fun ks i => layK i ks (rl regs i)) []) key (rl regs y) with ⟨j, x, h1, h2, h3, h4⟩ | ⟨h1, h2⟩
    · refine .inr ⟨y, j, x, h4, by simp, h1, h2, fun i' hi' j' x' hx' hk' => ?_⟩
      rcases List.mem_append.1 hi' with h | h
      · refine ⟨hs.2.2 i' h y (by simp), fun e => ?_⟩
        subst e
        exact h3 j' x' hx' hk'
      · simp only [List.mem_singleton] at h
        subst h
        exact ⟨Nat.le_refl _, fun _ => h3 j' x' hx' hk'⟩
    · rw [h2]
      rcases ih with ⟨h5, h6⟩ | ⟨i, j, x, h5, h6, h7, h8, h9⟩
      · refine .inl ⟨h5, fun i hi j x hx => ?_⟩
        rcases List.mem_append.1 hi with h | h
        · exact h6 i h j x hx
        · simp only [List.mem_singleton] at h
          subst h
          exact h1 j x hx
      · refine .inr ⟨i, j, x, h5, List.mem_append_left _ h6, h7, h8, fun i' hi' j' x' hx' hk' => ?_⟩
        rcases List.mem_append.1 hi' with h | h
        · exact h9 i' h j' x' hx' hk'
        · simp only [List.mem_singleton] at h
          subst h
          exact absurd hk' (h1 j' x' hx')
theorem Fresh.opened {D : Dev} {first n : Nat} (hn : Nums (Lg.opened D first n)) : Fresh (Lg.opened D first n) := by
  have hin : ∀ i, i < (opRegs D first n).length → 0 < rnum (opRegs D first n) i → i ∈ byNum (opRegs D first n) := fun i hi h0 => byNum_mem hi h0
  have hH : ∀ key q, (Lg.opened D first n).Has key q → q.op = false ∧ q.rg ∈ byNum (opRegs D first n) ∧ ∃ x, (rl (opRegs D first n) q.rg)[q.ix]? = some x ∧ x.key = key := by
    rintro key q ⟨x, hx, ⟨h1, h2, h3⟩ | ⟨h1, h2, h3⟩⟩
    · have h3' : ([] : List Item)[q.ix]? = some x := h3
      simp at h3'
    · have h2' : 0 < rnum (opRegs D first n) q.rg := h2
      refine ⟨h1, hin _ ?_ h2', x, h3, hx⟩
      rcases Nat.lt_or_ge q.rg (opRegs D first n).length with h | h
      · exact h
      · unfold rnum at h2'
        rw [List.getD_eq_getElem?_getD, List.getElem?_eq_none h] at h2'
        simp [Sealed.no] at h2'
  refine ⟨fun key hk q hq => ?_, fun key p hk => ?_⟩
  · rcases opened_at (opRegs D first n) key (byNum (opRegs D first n)) (byNum_sorted _) with ⟨h1, h2⟩ | ⟨i, j, x, h1, _⟩
    · obtain ⟨_, hm, x, hx, hxk⟩ := hH key q hq
      exact h2 _ hm _ _ hx hxk
    · have hk' : aget ((byNum (opRegs D first n)).foldl (fun ks i => layK i ks (rl (opRegs D first n) i)) []) key = none := hk
      rw [h1] at hk'
      cases hk'
  · have hk' : aget ((byNum (opRegs D first n)).foldl (fun ks i => layK i ks (rl (opRegs D first n) i)) []) key = some p := hk
    rcases opened_at (opRegs D first n) key (byNum (opRegs D first n)) (byNum_sorted _) with ⟨h1, h2⟩ | ⟨i, j, x, h1, h2, h3, h4, h5⟩
    · rw [h1] at hk'
      cases hk'
    · rw [h1] at hk'
      injection hk' with hk'
      subst hk'
      have hpos := byNum_pos h2
      refine ⟨⟨x, h4, .inr ⟨rfl, hpos, h3⟩⟩, fun q hq => ?_⟩
      obtain ⟨hqo, hm, y, hy, hyk⟩ := hH key q hq
      have h6 := h5 _ hm _ _ hy hyk
      unfold Lg.elder Lg.rank
      rw [hqo]
      simp only [Bool.false_eq_true, if_false]
      show rnum (opRegs D first n) q.rg < rnum (opRegs D first n) i ∨ rnum (opRegs D first n) q.rg = rnum (opRegs D first n) i ∧ q.ix ≤ j
      rcases Nat.lt_or_ge (rnum (opRegs D first n) q.rg) (rnum (opRegs D first n) i) with h | h
      · exact .inl h
      · right
        have e : rnum (opRegs D first n) q.rg = rnum (opRegs D first n) i := by omega
        have n1 := (hn q.rg (byNum_pos hm)).1
        have n2 := (hn i hpos).1
        have n1' : rnum (opRegs D first n) q.rg % (Lg.opened D first n).regs.length = q.rg := n1
        have n2' : rnum (opRegs D first n) i % (Lg.opened D first n).regs.length = i := n2
        exact ⟨e, h6.2 (by rw [← n1', e, n2'])⟩
theorem items_mem {G : Lg} {x : Item} (h : x ∈ G.items) : ∃ p, aget G.keys x.key = some p ∧ G.item p = x ∧ ((p.op = true ∧ p.rg = 0 ∧ G.opn[p.ix]? = some x) ∨ (p.op = false ∧ p.rg ∈ byNum G.regs ∧ (rl G.regs p.rg)[p.ix]? = some x)) := by
  rw [items_pl] at h
  obtain ⟨q, hq, rfl⟩ := List.mem_map.1 h
  obtain ⟨hm, hg⟩ := List.mem_filter.1 hq
  unfold plGood at hg
  simp only [decide_eq_true_eq] at hg
  refine ⟨q.2, hg, ?_⟩
  have hz : ∀ (l : List Item) (p : Item × Nat), p ∈ l.zipIdx → l[p.2]? = some p.1 := fun l p hp => List.mem_zipIdx_iff_getElem?.1 hp
  unfold allPl at hm
  rcases List.mem_append.1 hm with hm | hm
  · obtain ⟨i, hi, hm⟩ := List.mem_flatMap.1 hm
    obtain ⟨p, hp, rfl⟩ := List.mem_map.1 hm
    have := hz _ _ hp
    refine ⟨?_, .inr ⟨rfl, hi, this⟩⟩
    show (if false = true then _ else (rl G.regs i).getD p.2 Item.zero) = p.1
    rw [if_neg (by simp), List.getD_eq_getElem?_getD, this]; rfl
  · obtain ⟨p, hp, rfl⟩ := List.mem_map.1 hm
    have := hz _ _ hp
    refine ⟨?_, .inl ⟨rfl, rfl, this⟩⟩
    show (if true = true then G.opn.getD p.2 Item.zero else _) = p.1
    rw [if_pos rfl, List.getD_eq_getElem?_getD, this]; rfl
end Go.Proofs.YtplpbbdakihnfaaGreat
namespace Go.Proofs.YtplpbbdakihnfaaGreat
open Go.RowKit
end Go.Proofs.YtplpbbdakihnfaaGreat
namespace Go.Proofs.YtplpbbdakihnfaaGreat
open Go.RowKit
theorem ldS_congr {P Q : Nat → Pg} (h : ∀ k, k < 4 → P k = Q k) : ldS P = ldS Q := by
  have hB : ldB P 4 = ldB Q 4 := by
    have e : ∀ P : Nat → Pg, ldB P 4 = (P 0).rb 0 ++ ((P 1).rb 1 ++ ((P 2).rb 2 ++ ((P 3).rb 3 ++ []))) := fun P => rfl
    rw [e, e, h 0 (by omega), h 1 (by omega), h 2 (by omega), h 3 (by omega)]
  have hN : ldNums P 4 = ldNums Q 4 := by
    have e : ∀ P : Nat → Pg, ldNums P 4 = [(P 0).rn 0, (P 1).rn 1, (P 2).rn 2, (P 3).rn 3] := fun P => rfl
    rw [e, e, h 0 (by omega), h 1 (by omega), h 2 (by omega), h 3 (by omega)]
  unfold ldS
  rw [hB, hN, h 0 (by omega)]
theorem opRegs_get (D : Dev) (first n i : Nat) (h : i < n) : (opRegs D first n)[i]? = some (ldS (D.rpg first i)) := by
  unfold opRegs
  rw [List.getElem?_map, List.getElem?_range h]; rfl
end Go.Proofs.YtplpbbdakihnfaaGreat
end

section
namespace Go.Proofs.YtplpbbdakihnfaaGreat
open Go.RowKit
def keys (l : List Item) : List ByteArray := l.map (·.key)
theorem mem_rid {l : List Item} {key : ByteArray} {y : Item} : y ∈ rid l key ↔ y ∈ l ∧ y.key ≠ key := by
  simp [rid, keyed]
theorem keys_rid_sub (l : List Item) (key : ByteArray) : (keys (rid l key)).Sublist (keys l) := List.filter_sublist.map _
theorem key_not_rid (l : List Item) (key : ByteArray) : key ∉ keys (rid l key) := by
  simp only [keys, List.mem_map, not_exists, not_and]
  intro x hx
  exact (mem_rid.1 hx).2
theorem nodup_pnew {l : List Item} {x : Item} (h : (keys l).Nodup) : (keys (pnew l x)).Nodup := by
  unfold pnew keys
  rw [List.map_append, List.nodup_append]
  refine ⟨(keys_rid_sub l x.key).nodup h, by simp, ?_⟩
  intro a ha b hb
  simp only [List.map_cons, List.map_nil, List.mem_singleton] at hb
  subst hb
  rintro rfl
  exact key_not_rid l _ ha
theorem pnew_split (l : List Item) (x : Item) : pout l x ++ pleft l x = pnew l x := List.take_append_drop _ _
theorem records_one (x : Item) : (records [x]).length = x.size := by simp [records, record_length]
theorem fitN_last (l : List Item) (x : Item) (h : x.size ≤ 384) : fitN (l ++ [x]) ≤ l.length := by
  induction l with
  | nil =>
    rw [List.nil_append, fitN, if_neg (by rw [records_one]; omega)]
    exact Nat.le_refl _
  | cons y r ih =>
    rw [List.cons_append, fitN]
    split
    · simp only [List.length_cons]; omega
    · exact Nat.zero_le _
theorem pleft_eq (l : List Item) (x : Item) (h : x.size ≤ 384) : pleft l x = (rid l x.key).drop (fitN (pnew l x)) ++ [x] := by
  unfold pleft
  rw [show pnew l x = rid l x.key ++ [x] from rfl]
  exact List.drop_append_of_le_length (fitN_last _ x h)
theorem mem_pleft (l : List Item) (x : Item) (h : x.size ≤ 384) : x ∈ pleft l x := by rw [pleft_eq l x h]; simp
theorem pleft_sub {l : List Item} {x y : Item} (h : y ∈ pleft l x) : y = x ∨ (y ∈ l ∧ y.key ≠ x.key) := by
  have h1 : y ∈ pnew l x := List.mem_of_mem_drop h
  unfold pnew at h1
  rcases List.mem_append.1 h1 with h1 | h1
  · exact .inr (mem_rid.1 h1)
  · exact .inl (by simpa using h1)
structure Fine (B : Sto) (ls : List (List Item)) : Prop where
  home : ∀ (i : Nat) (l : List Item), ls[i]? = some l → ∀ x ∈ l, B.no x.key = i
  apart : ∀ (i : Nat) (l : List Item), ls[i]? = some l → (keys l).Nodup
  bits : ∀ (i : Nat) (bs : List Bool), B.fs[i]? = some bs → bs.length = 256
  told : ∀ (i : Nat) (l : List Item) (bs : List Bool), ls[i]? = some l → B.fs[i]? = some bs → ∀ x ∈ l, fmay bs (places 256 3 x.key.data.toList) = true
section
variable {B : Sto} {ls : List (List Item)}
theorem add_no (B : Sto) (x : Item) (key : ByteArray) : (B.add x).no key = B.no key := by unfold Sto.no; rw [show (B.add x).fs.length = B.fs.length from by simp [Sto.add]]
theorem Fine.put (h : Fine B ls) (x : Item) (hx : x.size ≤ 384) {l : List Item} (hl : ls[B.no x.key]? = some l) : Fine (B.add x) (ls.set (B.no x.key) (pleft l x)) := by
  have hlt : B.no x.key < ls.length := (List.getElem?_eq_some_iff.1 hl).1
  refine { home := ?_, apart := ?_, bits := ?_, told := ?_ }
  · intro i l' hi y hy
    rw [add_no]
    by_cases hij : B.no x.key = i
    · subst hij
      rw [List.getElem?_set_self hlt] at hi
      injection hi with hi
      subst hi
      rcases pleft_sub hy with rfl | ⟨h1, _⟩
      · rfl
      · exact h.home _ _ hl y h1
    · rw [List.getElem?_set_ne hij] at hi
      exact h.home _ _ hi y hy
  · intro i l' hi
    by_cases hij : B.no x.key = i
    · subst hij
      rw [List.getElem?_set_self hlt] at hi
      injection hi with hi
      subst hi
      exact ((List.drop_sublist _ _).map _).nodup (nodup_pnew (h.apart _ _ hl))
    · rw [List.getElem?_set_ne hij] at hi
      exact h.apart _ _ hi
  · intro i bs hb
    simp only [Sto.add, List.getElem?_modify] at hb
    cases hf : B.fs[i]? with
    | none => rw [hf] at hb; cases hb
    | some b0 =>
      rw [hf] at hb
      replace hb : (if B.no x.key = i then fadd b0 (places 256 3 x.key.data.toList) else b0) = bs := Option.some.inj hb
      have := h.bits i b0 hf
      subst hb
      split
      · rw [fadd_length]; exact this
      · exact this
  · intro i l' bs hi hb y hy
    simp only [Sto.add, List.getElem?_modify] at hb
    cases hf : B.fs[i]? with
    | none => rw [hf] at hb; cases hb
    | some b0 =>
      rw [hf] at hb
      replace hb : (if B.no x.key = i then fadd b0 (places 256 3 x.key.data.toList) else b0) = bs := Option.some.inj hb
      have hb0 := h.bits i b0 hf
      by_cases hij : B.no x.key = i
      · subst hij
        rw [if_pos rfl] at hb
        subst hb
        rw [List.getElem?_set_self hlt] at hi
        injection hi with hi
        subst hi
        rcases pleft_sub hy with rfl | ⟨h1, _⟩
        · exact fmay_fadd _ _ (fun i hi => by rw [hb0]; exact places_lt (by decide) _ _ i hi)
        · exact fmay_keeps _ _ _ (h.told _ _ _ hl hf y h1)
      · rw [if_neg hij] at hb
        subst hb
        rw [List.getElem?_set_ne hij] at hi
        exact h.told _ _ _ hi hf y hy
theorem Fine.drop (h : Fine B ls) (key : ByteArray) {l : List Item} (hl : ls[B.no key]? = some l) : Fine B (ls.set (B.no key) (rid l key)) := by
  have hlt : B.no key < ls.length := (List.getElem?_eq_some_iff.1 hl).1
  have hk : ∀ (i : Nat) (l' : List Item), (ls.set (B.no key) (rid l key))[i]? = some l' → ∃ l0, ls[i]? = some l0 ∧ l'.Sublist l0 := by
    intro i l' hi
    by_cases hij : B.no key = i
    · subst hij
      rw [List.getElem?_set_self hlt] at hi
      injection hi with hi
      subst hi
      exact ⟨l, hl, List.filter_sublist⟩
    · rw [List.getElem?_set_ne hij] at hi
      exact ⟨l', hi, List.Sublist.refl _⟩
  refine { home := ?_, apart := ?_, bits := h.bits, told := ?_ }
  · intro i l' hi y hy
    obtain ⟨l0, h0, hs⟩ := hk i l' hi
    exact h.home i l0 h0 y (hs.subset hy)
  · intro i l' hi
    obtain ⟨l0, h0, hs⟩ := hk i l' hi
    exact (hs.map _).nodup (h.apart i l0 h0)
  · intro i l' bs hi hb y hy
    obtain ⟨l0, h0, hs⟩ := hk i l' hi
    exact h.told i l0 bs h0 hb y (hs.subset hy)
theorem Fine.may (h : Fine B ls) (hp : ls.length = B.fs.length) {i : Nat} {l : List Item} (hl : ls[i]? = some l) {x : Item} (hx : x ∈ l) : B.may x.key = true := by
  unfold Sto.may
  rw [h.home i l hl x hx]
  have hlt : i < B.fs.length := by rw [← hp]; exact (List.getElem?_eq_some_iff.1 hl).1
  have hb := List.getElem?_eq_getElem hlt
  rw [List.getD_eq_getElem?_getD, hb, Option.getD_some]
  exact h.told i l _ hl hb x hx
theorem mem_flat {y : Item} : y ∈ ls.flatten ↔ ∃ (i : Nat) (l : List Item), ls[i]? = some l ∧ y ∈ l := by
  rw [List.mem_flatten]
  constructor
  · rintro ⟨l, hl, hy⟩
    obtain ⟨i, hi⟩ := List.mem_iff_getElem?.1 hl
    exact ⟨i, l, hi, hy⟩
  · rintro ⟨i, l, hi, hy⟩
    exact ⟨l, List.mem_of_getElem? hi, hy⟩
end
end Go.Proofs.YtplpbbdakihnfaaGreat
end

section
namespace Go.Proofs.YtplpbbdakihnfaaGreat
open Go.RowKit
structure Keep (A : Nat → Prop) (D D' : Dev) : Prop where
  n : D'.n = D.n
  on : D'.On
  los : D'.losses = D.losses
  page : ∀ i, A i → D'.page i = D.page i
  wt : ∀ i, A i → D'.wt i = D.wt i ∨ D'.wt i = none
  fl : ∀ i, A i → D'.fl i = D.fl i ∨ D'.fl i = D.page i
section
variable {A A' : Nat → Prop} {D D' D2 : Dev}
theorem Keep.refl (h : D.On) : Keep A D D := ⟨rfl, h, rfl, fun _ _ => rfl, fun _ _ => .inl rfl, fun _ _ => .inl rfl⟩
theorem Keep.trans (h : Keep A D D') (k : Keep A D' D2) : Keep A D D2 :=
  ⟨k.n.trans h.n, k.on, k.los.trans h.los, fun i hi => (k.page i hi).trans (h.page i hi), fun i hi => (k.wt i hi).elim (fun e => e ▸ h.wt i hi) .inr, fun i hi => by
    rcases k.fl i hi with e | e
    · rw [e]; exact h.fl i hi
    · rw [e]; exact .inr (h.page i hi)⟩
theorem Keep.mono (h : Keep A D D') (hA : ∀ i, A' i → A i) : Keep A' D D' := ⟨h.n, h.on, h.los, fun i hi => h.page i (hA i hi), fun i hi => h.wt i (hA i hi), fun i hi => h.fl i (hA i hi)⟩
theorem Keep.still (h : Keep A D D') {i : Nat} (hi : A i) (h0 : D.wt i = none) : D'.wt i = none := (h.wt i hi).elim (fun e => e.trans h0) id
theorem Keep.put (h : D.On) (k : Nat) (p : Pg) (hk : ∀ i, A i → i ≠ k) : Keep A D (D.put k p) := by
  refine ⟨rfl, ⟨h.off, h.armed⟩, rfl, fun i hi => ?_, fun i hi => .inl ?_, fun i hi => .inl rfl⟩
  · simp [Dev.page, Dev.put, hk i hi]
  · simp [Dev.put, hk i hi]
theorem Keep.flush (h : D.On) : Keep A D D.flush := by
  have hf := h.flush
  refine ⟨hf.2.1, hf.1, hf.2.2.1, fun i _ => hf.2.2.2.1 i, fun i _ => .inr (hf.2.2.2.2 i), fun i _ => .inr ?_⟩
  unfold Dev.flush
  rw [h.spend.1, if_pos rfl, h.spend.2]
  rfl
theorem Dev.On.fl_page {i : Nat} (h : D.wt i = none) : D.fl i = D.page i := by unfold Dev.page; rw [h]; rfl
theorem Keep.store (h : D.On) {k : Nat} (hk : k < D.n) {b : List UInt8} (hb : b.length ≤ 384) (hA : ∀ i, A i → i ≠ k) : Keep A D (D.write k b).flush ∧ (D.write k b).changeE = 0 ∧ D.changeE = 0 ∧ (∀ i, (D.write k b).flush.page i = if i = k then .full (Dev.pad b) else D.page i) ∧ ∀ i, (D.write k b).flush.wt i = none := by
  have hw := h.write hk hb
  have hf := hw.2.1.flush
  have e : D.write (k : Int) b = D.put k (.full (Dev.pad b)) := by
    have hh : D.has (k : Int) = true := by simp [Dev.has]; omega
    unfold Dev.write Dev.change
    rw [hh, decide_eq_true hb, h.spend.1, h.spend.2, Int.toNat_natCast]
    rfl
  refine ⟨?_, hw.2.1.changeE, h.changeE, fun i => by rw [hf.2.2.2.1 i]; exact hw.2.2.2.2 i, hf.2.2.2.2⟩
  rw [e]
  exact (Keep.put h k _ hA).trans (Keep.flush ⟨h.off, h.armed⟩)
end
theorem sbP_none {best : Option Sb} {p : List UInt8} {e : Int} (h : Sb.dec p = none ∨ e ≠ 0) : sbPick best p e = best := by
  unfold sbPick
  rcases h with h | h
  · rw [h]
  · cases Sb.dec p with
    | none => rfl
    | some b => simp only [if_neg h]
theorem sbP_some {best : Option Sb} {p : List UInt8} {b : Sb} (h : Sb.dec p = some b) : sbPick best p 0 = match best with | none => some b | some c => if c.seq < b.seq then some b else some c := by
  unfold sbPick
  rw [h]
  cases best <;> simp
theorem sload_two {p0 p1 : List UInt8} {e0 e1 : Int} {S : Sb} (hS : S = (sbPick (sbPick none p0 e0) p1 e1).getD Sb.zero) {nb : Sb} (hn : S.seq < nb.seq) {q : List UInt8} (hq : Sb.dec q = some nb) :
    (sbPick (sbPick none q 0) p1 e1).getD Sb.zero = nb ∧ (sbPick (sbPick none p0 e0) q 0).getD Sb.zero = nb := by
  have h0 : sbPick none q 0 = some nb := by rw [sbP_some hq]
  constructor
  · rw [h0]
    by_cases h1 : Sb.dec p1 = none ∨ e1 ≠ 0
    · rw [sbP_none h1]; rfl
    · have he : e1 = 0 := by
        by_cases h : e1 = 0
        · exact h
        · exact absurd (.inr h) h1
      subst he
      cases hd : Sb.dec p1 with
      | none => exact absurd (.inl hd) h1
      | some c =>
        rw [sbP_some hd]
        have hc : c.seq ≤ S.seq := by
          rw [hS, sbP_some hd]
          cases sbPick none p0 e0 with
          | none => simp
          | some a =>
            simp only
            split
            · simp
            · rename_i h; simp; omega
        simp only
        rw [if_neg (by omega)]
        rfl
  · rw [sbP_some hq]
    cases hp : sbPick none p0 e0 with
    | none => rfl
    | some a =>
      have ha : a.seq ≤ S.seq := by
        rw [hS, hp]
        by_cases h1 : Sb.dec p1 = none ∨ e1 ≠ 0
        · rw [sbP_none h1]; simp
        · have he : e1 = 0 := by
            by_cases h : e1 = 0
            · exact h
            · exact absurd (.inr h) h1
          subst he
          cases hd : Sb.dec p1 with
          | none => exact absurd (.inl hd) h1
          | some c =>
            rw [sbP_some hd]
            simp only
            split
            · rename_i h; simp; omega
            · simp
      simp only
      rw [if_pos (by omega)]
      rfl
theorem Dev.sload_eq (D : Dev) : D.sload = (sbPick (sbPick none (D.read ((0 : Nat) : Int)) (D.readE ((0 : Nat) : Int))) (D.read ((1 : Nat) : Int)) (D.readE ((1 : Nat) : Int))).getD Sb.zero := rfl
theorem Dev.On.reads {D : Dev} (h : D.On) {i : Nat} (hi : i < D.n) : D.read (i : Int) = (D.page i).data ∧ D.readE (i : Int) = (D.page i).err := by
  have hh : D.has (i : Int) = true := by simp [Dev.has]; omega
  unfold Dev.read Dev.readE
  rw [hh, h.off, Int.toNat_natCast]
  exact ⟨rfl, rfl⟩
theorem sb_store {D : Dev} (h : D.On) (hn : 2 ≤ D.n) (b : Sb) (hb : b.Ok) (hq : D.sload.seq + 1 < 18446744073709551616) :
    D.stE b = 0 ∧ (D.stD b).sload = (D.stB b).norm ∧ D.stR b = (D.stB b).norm ∧ Keep (fun i => 2 ≤ i) D (D.stD b) ∧ ∀ i, (D.stD b).wt i = none := by
  have hlt : (D.stB b).seq % 2 < 2 := Nat.mod_lt _ (by omega)
  have hs : (D.stB b).seq = D.sload.seq + 1 := rfl
  have hbo : (D.stB b).Ok := ⟨hq, hb.epoch, hb.reserved, hb.horizon, hb.gen, hb.image⟩
  have hst := Keep.store (A := fun i => 2 ≤ i) h (k := (D.stB b).seq % 2) (by omega) (b := (D.stB b).enc) (by rw [Sb.enc_len]; omega) (fun i hi => by have : 2 ≤ i := hi; omega)
  have eE : D.stE b = 0 := by unfold Dev.stE; rw [if_pos hst.2.2.1]; exact hst.2.1
  have eD : D.stD b = (D.write (((D.stB b).seq % 2 : Nat) : Int) (D.stB b).enc).flush := by unfold Dev.stD; rw [if_pos hst.2.2.1]; rfl
  refine ⟨eE, ?_, by unfold Dev.stR; rw [if_pos eE], by rw [eD]; exact hst.1, by rw [eD]; exact hst.2.2.2.2⟩
  rw [eD]
  have hpad : Sb.dec (Dev.pad (D.stB b).enc) = some (D.stB b).norm := Sb.dec_enc _ hbo _
  have hsq : D.sload.seq < (D.stB b).norm.seq := by show D.sload.seq < D.sload.seq + 1; omega
  have hon := hst.1.on
  have hn' : (D.write (((D.stB b).seq % 2 : Nat) : Int) (D.stB b).enc).flush.n = D.n := hst.1.n
  have two := sload_two (D.sload_eq) hsq hpad
  rw [Dev.sload_eq]
  have r0 := hon.reads (i := 0) (by rw [hn']; omega)
  have r1 := hon.reads (i := 1) (by rw [hn']; omega)
  have o0 := h.reads (i := 0) (by omega)
  have o1 := h.reads (i := 1) (by omega)
  have p0 := hst.2.2.2.1 0
  have p1 := hst.2.2.2.1 1
  rw [r0.1, r0.2, r1.1, r1.2, p0, p1]
  rw [o0.1, o0.2, o1.1, o1.2] at two
  rcases (by omega : (D.stB b).seq % 2 = 0 ∨ (D.stB b).seq % 2 = 1) with e | e
  · rw [e, if_pos rfl, if_neg (by omega)]
    exact two.1
  · rw [e, if_neg (by omega), if_pos rfl]
    exact two.2
theorem sload_keep {A : Nat → Prop} {D D' : Dev} (h : D.On) (hk : Keep A D D') (hA : ∀ i, i < 2 → A i) : D'.sload = D.sload := sload_same h hk.on hk.n (fun i hi => hk.page i (hA i hi))
end Go.Proofs.YtplpbbdakihnfaaGreat
end

section
namespace Go.Proofs.YtplpbbdakihnfaaGreat
open Go.RowKit
structure Run (g : Geo) (c : Nat) (X : Eng) (D : Dev) : Prop where
  geo : g.ok = true
  on : D.On
  fit : g.pages ≤ D.n
  few : c ≤ 1000000
  los : X.losses = D.losses
  jls : X.J.losses = D.losses
  bls : X.B.losses = D.losses
  gls : X.G.losses = D.losses
  j1 : X.J.first = 2
  j2 : X.J.pages = g.j
  b1 : X.B.first = ((2 + g.j : Nat) : Int)
  b2 : X.B.fs.length = g.b
  g1 : X.G.first = 2 + g.j + g.b
  g2 : X.G.regs.length = g.r
  sl : D.sload = X.blk
  ok : X.blk.Ok
  w0 : D.wt 0 = none
  w1 : D.wt 1 = none
  seq : X.blk.seq ≤ c
  epoch : X.blk.epoch ≤ c
  gen : X.blk.gen ≤ c
  res : X.blk.reserved ≤ 64 * c
  last : X.last ≤ X.blk.reserved
  hor : X.blk.horizon ≤ X.last
section
variable {g : Geo} {c : Nat} {X : Eng} {D D' : Dev}
theorem Geo.parts {g : Geo} (h : g.ok = true) : 1 ≤ g.j ∧ g.j ≤ 64 ∧ 1 ≤ g.b ∧ g.b ≤ 64 ∧ 1 ≤ g.r ∧ g.r ≤ 16 ∧ g.i ≤ 256 := by
  unfold Geo.ok at h
  simp only [Bool.and_eq_true, decide_eq_true_eq] at h
  obtain ⟨⟨⟨⟨⟨⟨h1, h2⟩, h3⟩, h4⟩, h5⟩, h6⟩, h7⟩ := h
  exact ⟨h1, h2, h3, h4, h5, h6, h7⟩
theorem Run.n2 (h : Run g c X D) : 2 ≤ D.n := by have := h.fit; unfold Geo.pages at this; omega
theorem Run.sq (h : Run g c X D) : D.sload.seq + 1 < 18446744073709551616 := by rw [h.sl]; have := h.seq; have := h.few; omega
theorem Run.fit_ (h : Run g c X D) : X.Fit D :=
  ⟨h.on, h.los, h.jls, h.n2, by rw [h.j1]; exact Nat.le_refl _, by rw [h.j1, h.j2]; have := h.fit; unfold Geo.pages at this; omega, h.sq, by have := h.gen; have := h.few; omega⟩
theorem Run.more (h : Run g c X D) {c' : Nat} (hc : c ≤ c') (hf : c' ≤ 1000000) : Run g c' X D :=
  { h with few := hf, seq := Nat.le_trans h.seq hc, epoch := Nat.le_trans h.epoch hc, gen := Nat.le_trans h.gen hc, res := Nat.le_trans h.res (Nat.mul_le_mul_left _ hc) }
theorem Run.part (h : Run g c X D) {X' : Eng} (hk : Keep (fun i => i < 2) D D') (e1 : X'.losses = X.losses) (e2 : X'.blk = X.blk) (e3 : X'.last = X.last)
    (j1 : X'.J.first = X.J.first) (j2 : X'.J.pages = X.J.pages) (j3 : X'.J.losses = X.J.losses) (b1 : X'.B.first = X.B.first) (b2 : X'.B.fs.length = X.B.fs.length) (b3 : X'.B.losses = X.B.losses)
    (g1 : X'.G.first = X.G.first) (g2 : X'.G.regs.length = X.G.regs.length) (g3 : X'.G.losses = X.G.losses) : Run g c X' D' :=
  ⟨h.geo, hk.on, by rw [hk.n]; exact h.fit, h.few, by rw [e1, hk.los]; exact h.los, by rw [j3, hk.los]; exact h.jls, by rw [b3, hk.los]; exact h.bls, by rw [g3, hk.los]; exact h.gls,
    j1.trans h.j1, j2.trans h.j2, b1.trans h.b1, b2.trans h.b2, g1.trans h.g1, g2.trans h.g2, by rw [e2, sload_keep h.on hk (fun i hi => hi)]; exact h.sl, by rw [e2]; exact h.ok,
    hk.still (by decide : (0 : Nat) < 2) h.w0, hk.still (by decide : (1 : Nat) < 2) h.w1, by rw [e2]; exact h.seq, by rw [e2]; exact h.epoch, by rw [e2]; exact h.gen, by rw [e2]; exact h.res, by rw [e2, e3]; exact h.last, by rw [e2, e3]; exact h.hor⟩
theorem Run.set (h : Run g c X D) (hc : c + 1 ≤ 1000000) (b : Sb) (hb : b.Ok) (h1 : b.epoch ≤ c + 1) (h2 : b.gen ≤ c + 1) (h3 : b.reserved ≤ 64 * (c + 1)) (h4 : X.last ≤ b.reserved) (h5 : b.horizon ≤ X.last) :
    D.stE b = 0 ∧ X.set D b = { X with blk := { b with seq := X.blk.seq + 1, image := b.img } } ∧ Run g (c + 1) (X.set D b) (D.stD b) ∧ Keep (fun i => 2 ≤ i) D (D.stD b) ∧ ∀ i, (D.stD b).wt i = none := by
  obtain ⟨q1, q2, q3, q4, q5⟩ := sb_store h.on h.n2 b hb h.sq
  have eb : D.stR b = { b with seq := X.blk.seq + 1, image := b.img } := by
    rw [q3]; unfold Dev.stB Sb.norm Sb.img; rw [h.sl]
  have e : X.set D b = { X with blk := { b with seq := X.blk.seq + 1, image := b.img } } := by unfold Eng.set; rw [if_pos q1, eb]
  have hok : (D.stR b).Ok := stR_ok hb h.sq
  refine ⟨q1, e, ?_, q4, q5⟩
  rw [e]
  rw [eb] at hok
  rw [q3.symm.trans eb] at q2
  exact ⟨h.geo, q4.on, by rw [q4.n]; exact h.fit, hc, by rw [q4.los]; exact h.los, by rw [q4.los]; exact h.jls, by rw [q4.los]; exact h.bls, by rw [q4.los]; exact h.gls, h.j1, h.j2, h.b1, h.b2, h.g1, h.g2, q2, hok, q5 0, q5 1,
    Nat.succ_le_succ h.seq, h1, h2, h3, h4, h5⟩
theorem Run.version (h : Run g c X D) (hc : c + 1 ≤ 1000000) : X.verE D = 0 ∧ X.verV D = X.last + 1 ∧ Run g (c + 1) (X.verX D) (X.verD D) ∧ Keep (fun i => 2 ≤ i) D (X.verD D) ∧
    (X.verX D).last = X.last + 1 ∧ (X.verX D).J = X.J ∧ (X.verX D).B = X.B ∧ (X.verX D).G = X.G ∧ (X.verX D).blk.horizon = X.blk.horizon ∧ (X.verX D).blk.gen = X.blk.gen ∧ (X.verX D).blk.epoch = X.blk.epoch ∧
    (X.verX D).blk.reserved = if X.last = X.blk.reserved then X.blk.reserved + 64 else X.blk.reserved := by
  by_cases hl : X.last = X.blk.reserved
  · have hb : X.vB.Ok := ⟨h.ok.seq, h.ok.epoch, by show X.blk.reserved + 64 < _; have := h.res; have := h.few; omega, h.ok.horizon, h.ok.gen, h.ok.image⟩
    obtain ⟨q1, q2, q3, q4, q5⟩ := h.set hc X.vB hb (Nat.le_succ_of_le h.epoch) (Nat.le_succ_of_le h.gen) (by show X.blk.reserved + 64 ≤ _; have := h.res; omega) (by show X.last ≤ X.blk.reserved + 64; have := h.last; omega) h.hor
    have eE : X.verE D = 0 := by unfold Eng.verE; rw [if_pos hl]; exact q1
    have eX : X.verX D = { X.set D X.vB with last := X.last + 1 } := by unfold Eng.verX; simp only; rw [if_pos hl, if_pos eE]
    have eD : X.verD D = D.stD X.vB := by unfold Eng.verD; rw [if_pos hl]
    refine ⟨eE, by unfold Eng.verV; rw [if_pos eE], ?_, by rw [eD]; exact q4, by rw [eX], by rw [eX, q2], by rw [eX, q2], by rw [eX, q2], by rw [eX, q2]; rfl, by rw [eX, q2]; rfl, by rw [eX, q2]; rfl, by rw [eX, q2, if_pos hl]; rfl⟩
    rw [eX, eD]
    have h9 : X.last + 1 ≤ (X.set D X.vB).blk.reserved := by rw [q2]; show X.last + 1 ≤ X.blk.reserved + 64; omega
    have h8 : (X.set D X.vB).blk.horizon ≤ X.last + 1 := by rw [q2]; show X.blk.horizon ≤ _; have := h.hor; omega
    exact { q3 with last := h9, hor := h8 }
  · have eE : X.verE D = 0 := by unfold Eng.verE; rw [if_neg hl]
    have eX : X.verX D = { X with last := X.last + 1 } := by unfold Eng.verX; simp only; rw [if_neg hl, if_pos eE]
    have eD : X.verD D = D := by unfold Eng.verD; rw [if_neg hl]
    refine ⟨eE, by unfold Eng.verV; rw [if_pos eE], ?_, by rw [eD]; exact Keep.refl h.on, by rw [eX], by rw [eX], by rw [eX], by rw [eX], by rw [eX], by rw [eX], by rw [eX], by rw [eX, if_neg hl]⟩
    rw [eX, eD]
    have h2 := h.more (Nat.le_succ c) hc
    exact { h2 with last := by show X.last + 1 ≤ X.blk.reserved; have := h.last; omega, hor := by show X.blk.horizon ≤ X.last + 1; have := h.hor; omega }
theorem Run.wipe (h : Run g c X D) (hc : c + 1 ≤ 1000000) : X.wipeE D = 0 ∧ Run g (c + 1) (X.wipeX D) (D.stD X.wB) ∧ Keep (fun i => 2 ≤ i) D (D.stD X.wB) ∧
    X.wipeX D = { X with blk := { X.blk with horizon := X.last, gen := X.blk.gen + 1, seq := X.blk.seq + 1, image := X.blk.img }, J := X.J.begun (X.blk.gen + 1) } := by
  have hb : X.wB.Ok := ⟨h.ok.seq, h.ok.epoch, h.ok.reserved, by show X.last < _; have := h.last; have := h.res; have := h.few; omega, by show X.blk.gen + 1 < _; have := h.gen; have := h.few; omega, h.ok.image⟩
  obtain ⟨q1, q2, q3, q4, q5⟩ := h.set hc X.wB hb (Nat.le_succ_of_le h.epoch) (Nat.succ_le_succ h.gen) (by show X.blk.reserved ≤ _; have := h.res; omega) h.last (Nat.le_refl _)
  have e : X.wipeX D = { X with blk := { X.blk with horizon := X.last, gen := X.blk.gen + 1, seq := X.blk.seq + 1, image := X.blk.img }, J := X.J.begun (X.blk.gen + 1) } := by
    unfold Eng.wipeX
    rw [if_pos q1, q2]
    rfl
  refine ⟨q1, ?_, q4, e⟩
  rw [q2] at q3
  rw [e]
  exact { q3 with }
end
end Go.Proofs.YtplpbbdakihnfaaGreat
end
