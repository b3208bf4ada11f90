/- Packed texts: LogA, LogB, InvA. -/
import Derived.Test.YtplpbbdakihnfaaGreatPk20
import Derived.Test.YtplpbbdakihnfaaGreatPk19
import Derived.Test.YtplpbbdakihnfaaGreatPk24

/- What a log tells, key by key, in plain Lean. -/
section
/- What a log tells, key by key, in plain Lean; how many items it tells. -/
namespace Go.Proofs.YtplpbbdakihnfaaGreat
open Go.RowKit
set_option linter.unusedSimpArgs false
set_option linter.unusedVariables false

/-! what give lets go -/
def keysOf (l : List Item) : List ByteArray := l.map (·.key)
def hasKey (key : ByteArray) (l : List Item) : Bool := l.any fun x => decide (x.key = key)
theorem hasKey_iff (key : ByteArray) (l : List Item) : hasKey key l = true ↔ key ∈ keysOf l := by
  unfold hasKey keysOf
  rw [List.any_eq_true, List.mem_map]
  exact ⟨fun ⟨x, h1, h2⟩ => ⟨x, h1, by simpa using h2⟩, fun ⟨x, h1, h2⟩ => ⟨x, h1, by simpa using h2⟩⟩
theorem hasKey_snoc (key : ByteArray) (l : List Item) (x : Item) : hasKey key (l ++ [x]) = (hasKey key l || decide (x.key = key)) := by
  unfold hasKey
  rw [List.any_append]
  simp
theorem giveT_get (i : Nat) (ks : Keys) (l : List Item) (hn : (akeys ks).Nodup) (k : Nat) (hk : k ≤ l.length) (key : ByteArray) :
    aget (giveT i ks l k).2 key = if hasKey key (giveT i ks l k).1 = true then none else aget ks key := by
  induction k with
  | zero => simp [giveT_zero, hasKey]
  | succ k ih =>
    have ih := ih (by omega)
    have hnd := giveT_nodup i ks l hn k (by omega)
    rw [giveT_succ i ks (List.getElem?_eq_getElem (by omega : k < l.length))]
    unfold giveS
    split
    · rename_i h
      simp only
      rw [aget_adel _ hnd, hasKey_snoc]
      by_cases hx : l[k].key = key
      · rw [if_pos hx, decide_eq_true hx, Bool.or_true, if_pos rfl]
      · rw [if_neg hx, ih, decide_eq_false hx, Bool.or_false]
    · exact ih
theorem giveT_lost (i : Nat) (ks : Keys) (l : List Item) (hn : (akeys ks).Nodup) (k : Nat) (hk : k ≤ l.length) :
    (keysOf (giveT i ks l k).1).Nodup ∧ ∀ x ∈ (giveT i ks l k).1, ∃ j, j < k ∧ l[j]? = some x ∧ aget ks x.key = some ⟨false, i, j⟩ := by
  induction k with
  | zero => exact ⟨by simp [giveT_zero, keysOf], fun x hx => by simp [giveT_zero] at hx⟩
  | succ k ih =>
    obtain ⟨ih1, ih2⟩ := ih (by omega)
    have hlt : k < l.length := by omega
    rw [giveT_succ i ks (List.getElem?_eq_getElem hlt)]
    unfold giveS
    split
    · rename_i h
      simp only at h
      have hg := giveT_get i ks l hn k (by omega) l[k].key
      rw [h] at hg
      have hno : l[k].key ∉ keysOf (giveT i ks l k).1 := fun hm => by rw [if_pos ((hasKey_iff _ _).2 hm)] at hg; cases hg
      rw [if_neg (fun hh => hno ((hasKey_iff _ _).1 hh))] at hg
      refine ⟨?_, fun x hx => ?_⟩
      · simp only [keysOf, List.map_append, List.map_cons, List.map_nil] at ih1 hno ⊢
        rw [List.nodup_append]
        refine ⟨ih1, by simp, fun a ha b hb => ?_⟩
        simp only [List.mem_singleton] at hb
        rw [hb]
        rintro rfl
        exact hno ha
      · rcases List.mem_append.1 hx with hx | hx
        · obtain ⟨j, h1, h2⟩ := ih2 x hx
          exact ⟨j, by omega, h2⟩
        · simp only [List.mem_singleton] at hx
          subst hx
          exact ⟨k, by omega, List.getElem?_eq_getElem hlt, hg.symm⟩
    · refine ⟨ih1, fun x hx => ?_⟩
      obtain ⟨j, h1, h2⟩ := ih2 x hx
      exact ⟨j, by omega, h2⟩

/-- what a log tells of a key -/
def Lg.view (G : Lg) (key : ByteArray) : Option Item := (aget G.keys key).map G.item
theorem Lg.get_view (G : Lg) (key : ByteArray) : G.get key = (G.view key).getD Item.zero ∧ G.getE key = if (G.view key).isSome then 0 else 5 := by
  unfold Lg.get Lg.getE Lg.has Lg.view
  cases aget G.keys key <;> simp
theorem Lg.view_add (G : Lg) (ho : G.Ok) (x : Item) (key : ByteArray) : (G.add x).view key = if x.key = key then some x else G.view key := by
  unfold Lg.view
  show (aget (aset G.keys x.key ⟨true, 0, G.opn.length⟩) key).map (G.add x).item = _
  rw [aget_aset]
  split
  · simp [Lg.item, Lg.add]
  · cases h : aget G.keys key with
    | none => rfl
    | some p =>
      simp only [Option.map_some, Option.some.injEq]
      have := ho.keys key p h
      unfold Lg.plOk at this
      unfold Lg.item
      split
      · rename_i hop
        rw [if_pos hop] at this
        obtain ⟨_, y, hy, _⟩ := this
        have hlt := (List.getElem?_eq_some_iff.1 hy).1
        show (G.opn ++ [x]).getD p.ix Item.zero = _
        rw [List.getD_eq_getElem?_getD, List.getD_eq_getElem?_getD, List.getElem?_append_left hlt]
      · rfl
theorem Lg.view_key {G : Lg} (ho : G.Ok) {key : ByteArray} {x : Item} (h : G.view key = some x) : x.key = key := by
  unfold Lg.view at h
  cases hp : aget G.keys key with
  | none => rw [hp] at h; cases h
  | some p =>
    rw [hp] at h
    simp only [Option.map_some, Option.some.injEq] at h
    have := ho.keys key p hp
    unfold Lg.plOk at this
    unfold Lg.item at h
    split at this
    · rename_i hop
      rw [if_pos hop] at h
      obtain ⟨_, y, hy, hk⟩ := this
      rw [List.getD_eq_getElem?_getD, hy] at h
      rw [← h]; exact hk
    · rename_i hop
      rw [if_neg hop] at h
      obtain ⟨S, y, hS, hy, hk⟩ := this
      unfold rl at h
      rw [List.getD_eq_getElem?_getD, List.getD_eq_getElem?_getD, hS] at h
      simp only [Option.getD_some] at h
      rw [hy] at h
      rw [← h]; exact hk
theorem Lg.view_shut (G : Lg) (ho : G.Ok) (hn : (akeys G.keys).Nodup) (key : ByteArray) : G.shut.view key = if hasKey key G.given.1 = true then none else G.view key := by
  have hi : G.next < G.regs.length := Nat.mod_lt _ ho.pos
  have hg := ho.gave hn hi
  have hv : ∀ key p, aget G.given.2 key = some p → p.op = true → p.rg = 0 ∧ ∃ x, G.opn[p.ix]? = some x ∧ x.key = key := by
    intro key p hp hop
    have := hg.keys key p hp
    unfold Lg.plOk at this
    rw [if_pos hop] at this
    exact this
  have hget : aget G.given.2 key = if hasKey key G.given.1 = true then none else aget G.keys key := by
    unfold Lg.given
    rw [← giveT_all]
    exact giveT_get _ _ _ hn _ (Nat.le_refl _) key
  unfold Lg.view
  show (aget (moveK G.next G.given.2 G.opn) key).map G.shut.item = _
  rw [← moveT_all, moveT_get _ _ _ hv _ (Nat.le_refl _)]
  by_cases hm : hasKey key G.given.1 = true
  · rw [hget, if_pos hm, if_pos hm]; rfl
  · rw [if_neg hm] at hget ⊢
    rw [hget]
    cases hp : aget G.keys key with
    | none => rfl
    | some p =>
      simp only [Option.map_some, Option.some.injEq]
      have hgp : aget G.given.2 key = some p := by rw [hget, hp]
      have hok := hg.keys key p hgp
      unfold Lg.plOk at hok
      by_cases hop : p.op = true
      · rw [if_pos hop] at hok
        obtain ⟨_, x, hx, _⟩ := hok
        have hlt : p.ix < G.opn.length := (List.getElem?_eq_some_iff.1 hx).1
        have e : moved G.next G.opn.length p = ⟨false, G.next, p.ix⟩ := by unfold moved; rw [if_pos ⟨hop, hlt⟩]
        rw [e]
        unfold Lg.item
        rw [if_pos hop]
        simp only [Bool.false_eq_true, if_false]
        unfold rl Lg.shut
        simp only
        rw [List.getD_eq_getElem?_getD (l := (G.regs.set G.next Sealed.no).set G.next _), List.getElem?_set, if_pos rfl, if_pos (by simpa using hi)]
        rfl
      · have e : moved G.next G.opn.length p = p := by unfold moved; rw [if_neg (fun hh => hop hh.1)]
        rw [e]
        rw [if_neg hop] at hok
        obtain ⟨S, x, hS, hx, _⟩ := hok
        have hne : G.next ≠ p.rg := by
          intro e
          simp only at hS
          rw [List.getElem?_set, if_pos e, if_pos hi] at hS
          injection hS with hS
          subst hS
          simp [Sealed.no] at hx
        unfold Lg.item
        rw [if_neg hop, if_neg hop]
        unfold rl Lg.shut
        simp only
        rw [List.getD_eq_getElem?_getD (l := (G.regs.set G.next Sealed.no).set G.next _), List.getElem?_set, if_neg hne, List.getElem?_set, if_neg hne, ← List.getD_eq_getElem?_getD]

/-! how many items a log tells -/
def regPl (G : Lg) (i : Nat) : List (Item × Pl) := (rl G.regs i).zipIdx.map fun p => (p.1, ⟨false, i, p.2⟩)
def opnPl (G : Lg) : List (Item × Pl) := G.opn.zipIdx.map fun p => (p.1, ⟨true, 0, p.2⟩)
def allPl (G : Lg) : List (Item × Pl) := (byNum G.regs).flatMap (regPl G) ++ opnPl G
def plGood (G : Lg) (q : Item × Pl) : Bool := decide (aget G.keys q.1.key = some q.2)
theorem pick_pl (ks : Keys) (pl : Nat → Pl) (l : List Item) : pick ks pl l = ((l.zipIdx.map fun p => (p.1, pl p.2)).filter fun q => decide (aget ks q.1.key = some q.2)).map (·.1) := by
  unfold pick
  rw [List.filter_map, List.map_map]
  rfl
theorem items_pl (G : Lg) : G.items = ((allPl G).filter (plGood G)).map (·.1) := by
  unfold Lg.items allPl
  rw [List.filter_append, List.map_append, pick_pl G.keys _ G.opn]
  congr 1
  induction byNum G.regs with
  | nil => rfl
  | cons i r ih =>
    rw [List.flatMap_cons, List.flatMap_cons, List.filter_append, List.map_append, ih, pick_pl]
    rfl
theorem nodup_of_map {α β : Type} (f : α → β) {l : List α} (h : (l.map f).Nodup) : l.Nodup := by
  have h1 := List.pairwise_map.1 h
  exact h1.imp (fun hab e => hab (by rw [e]))
theorem zip_nodup (l : List Item) : (l.zipIdx.map (·.2)).Nodup := by
  rw [List.zipIdx_map_snd]
  exact List.nodup_range'
theorem pl_nodup (l : List Item) (pl : Nat → Pl) (hp : ∀ a b, pl a = pl b → a = b) : ((l.zipIdx.map fun p => (p.1, pl p.2)).map (·.2)).Nodup := by
  have h := List.pairwise_map.1 (zip_nodup l)
  rw [List.map_map]
  exact List.pairwise_map.2 (h.imp (fun hab e => hab (hp _ _ e)))
theorem fm_nodup (G : Lg) : ∀ L : List Nat, L.Nodup → ((L.flatMap (regPl G)).map (·.2)).Nodup := by
  intro L
  induction L with
  | nil => intro _; simp
  | cons i r ih =>
    intro hn
    rw [List.nodup_cons] at hn
    rw [List.flatMap_cons, List.map_append, List.nodup_append]
    refine ⟨pl_nodup _ (fun k => ⟨false, i, k⟩) (fun a b e => by injection e), ih hn.2, fun a ha b hb => ?_⟩
    rintro rfl
    obtain ⟨q, hq, e1⟩ := List.mem_map.1 ha
    obtain ⟨p, _, e2⟩ := List.mem_map.1 hq
    obtain ⟨q', hq', e3⟩ := List.mem_map.1 hb
    obtain ⟨j, hj, hq2⟩ := List.mem_flatMap.1 hq'
    obtain ⟨p', _, e4⟩ := List.mem_map.1 hq2
    have h1 : a.rg = i := by rw [← e1, ← e2]
    have h2 : a.rg = j := by rw [← e3, ← e4]
    exact hn.1 (by rw [← h1, h2]; exact hj)
theorem insR_nodup (f : Nat → Nat) (x : Nat) (l : List Nat) (hn : l.Nodup) (hx : x ∉ l) : (insR f x l).Nodup := by
  induction l with
  | nil => simp [insR]
  | cons y r ih =>
    rw [List.nodup_cons] at hn
    rw [insR]
    split
    · rw [List.nodup_cons]
      refine ⟨fun h => ?_, ih hn.2 (fun h => hx (List.mem_cons_of_mem _ h))⟩
      rcases (insR_mem f x y r).1 h with e | e
      · exact hx (by rw [e]; exact List.mem_cons_self)
      · exact hn.1 e
    · rw [List.nodup_cons]
      exact ⟨hx, List.nodup_cons.2 hn⟩
theorem insL_nodup (f : Nat → Nat) (l : List Nat) (hn : l.Nodup) : (insL f l).Nodup := by
  rw [← List.reverse_reverse l] at hn ⊢
  generalize l.reverse = m at hn ⊢
  induction m with
  | nil => simp [insL]
  | cons x r ih =>
    rw [List.reverse_cons, List.nodup_append] at hn
    rw [List.reverse_cons, insL_snoc]
    refine insR_nodup f x _ (ih hn.1) (fun h => ?_)
    exact hn.2.2 x ((insL_mem f x _).1 h) x (by simp) rfl
theorem byNum_nodup (regs : List Sealed) : (byNum regs).Nodup := by
  unfold byNum sortR
  have h := insL_nodup (rnum regs) (counts regs) ((List.filter_sublist).nodup List.nodup_range)
  unfold insL at h
  exact List.pairwise_reverse.2 (h.imp (fun hab => Ne.symm hab))
theorem byNum_mem {regs : List Sealed} {i : Nat} (hi : i < regs.length) (h0 : 0 < rnum regs i) : i ∈ byNum regs := by
  unfold byNum sortR
  rw [List.mem_reverse]
  exact (insL_mem (rnum regs) i (counts regs)).2 (List.mem_filter.2 ⟨List.mem_range.2 hi, by simpa using h0⟩)
theorem items_len {G : Lg} (ho : G.Ok) (hn : (akeys G.keys).Nodup) (hz : ∀ (i : Nat) (S : Sealed), G.regs[i]? = some S → S.l ≠ [] → 0 < S.num) : G.items.length = G.keys.length := by
  have hF : G.items.length = (((allPl G).filter (plGood G)).map fun q => (q.1.key, q.2)).length := by rw [items_pl]; simp
  have hnF : (((allPl G).filter (plGood G)).map fun q => (q.1.key, q.2)).Nodup := by
    refine nodup_of_map (·.2) ?_
    rw [List.map_map]
    have h1 : ((allPl G).map (·.2)).Nodup := by
      unfold allPl
      rw [List.map_append, List.nodup_append]
      refine ⟨fm_nodup G _ (byNum_nodup _), pl_nodup _ (fun k => ⟨true, 0, k⟩) (fun a b e => by injection e), fun a ha b hb => ?_⟩
      rintro rfl
      obtain ⟨q, hq, e1⟩ := List.mem_map.1 ha
      obtain ⟨j, _, hq2⟩ := List.mem_flatMap.1 hq
      obtain ⟨p, _, e2⟩ := List.mem_map.1 hq2
      obtain ⟨q', hq', e3⟩ := List.mem_map.1 hb
      obtain ⟨p', _, e4⟩ := List.mem_map.1 hq'
      have h1 : a.op = false := by rw [← e1, ← e2]
      have h2 : a.op = true := by rw [← e3, ← e4]
      rw [h1] at h2; cases h2
    exact ((List.filter_sublist).map _).nodup h1
  have hnK : G.keys.Nodup := nodup_of_map (fun p : ByteArray × Pl => p.1) (by unfold akeys at hn; exact hn)
  rw [hF]
  refine Nat.le_antisymm (hnF.length_le_of_subset ?_) (hnK.length_le_of_subset ?_)
  · intro q hq
    obtain ⟨p, hp, rfl⟩ := List.mem_map.1 hq
    have hg := (List.mem_filter.1 hp).2
    unfold plGood at hg
    exact aget_mem (by simpa using hg)
  · rintro ⟨key, p⟩ hkp
    have hp := aget_of_mem hn hkp
    have hok := ho.keys key p hp
    unfold Lg.plOk at hok
    obtain ⟨op, rg, ix⟩ := p
    cases op with
    | true =>
      simp only [if_true] at hok
      obtain ⟨rfl, x, hx, rfl⟩ := hok
      refine List.mem_map.2 ⟨(x, ⟨true, 0, ix⟩), List.mem_filter.2 ⟨List.mem_append_right _ (List.mem_map.2 ⟨(x, ix), List.mem_of_getElem? (zip_get hx), rfl⟩), ?_⟩, rfl⟩
      unfold plGood
      simpa using hp
    | false =>
      simp only [Bool.false_eq_true, if_false] at hok
      obtain ⟨S, x, hS, hx, rfl⟩ := hok
      have hrl : rl G.regs rg = S.l := by unfold rl; rw [List.getD_eq_getElem?_getD, hS]; rfl
      have hrn : rnum G.regs rg = S.num := by unfold rnum; rw [List.getD_eq_getElem?_getD, hS]; rfl
      have h0 := hz rg S hS (fun e => by rw [e] at hx; cases hx)
      refine List.mem_map.2 ⟨(x, ⟨false, rg, ix⟩), List.mem_filter.2 ⟨List.mem_append_left _ (List.mem_flatMap.2 ⟨rg, byNum_mem (List.getElem?_eq_some_iff.1 hS).1 (by rw [hrn]; exact h0), ?_⟩), ?_⟩, rfl⟩
      · unfold regPl
        rw [hrl]
        exact List.mem_map.2 ⟨(x, ix), List.mem_of_getElem? (zip_get hx), rfl⟩
      · unfold plGood
        simpa using hp
end Go.Proofs.YtplpbbdakihnfaaGreat
end

/- A log tells of each key the newest place, in plain Lean. -/
section
/- A log tells of each key the newest place, in plain Lean. -/
namespace Go.Proofs.YtplpbbdakihnfaaGreat
open Go.RowKit
set_option linter.unusedSimpArgs false
set_option linter.unusedVariables false

/-- an item of this key stands there -/
def Lg.Has (G : Lg) (key : ByteArray) (p : Pl) : Prop :=
  ∃ x : Item, x.key = key ∧ ((p.op = true ∧ p.rg = 0 ∧ G.opn[p.ix]? = some x) ∨ (p.op = false ∧ 0 < rnum G.regs p.rg ∧ (rl G.regs p.rg)[p.ix]? = some x))
def Lg.rank (G : Lg) (p : Pl) : Nat := if p.op then G.number + 1 else rnum G.regs p.rg
def Lg.elder (G : Lg) (q p : Pl) : Prop := G.rank q < G.rank p ∨ (G.rank q = G.rank p ∧ q.ix ≤ p.ix)
structure Fresh (G : Lg) : Prop where
  non : ∀ key, aget G.keys key = none → ∀ p, ¬ G.Has key p
  som : ∀ key p, aget G.keys key = some p → G.Has key p ∧ ∀ q, G.Has key q → G.elder q p
/-- the regions' numbers -/
def Nums (G : Lg) : Prop := ∀ i, 0 < rnum G.regs i → rnum G.regs i % G.regs.length = i ∧ rnum G.regs i ≤ G.number ∧ G.number < rnum G.regs i + G.regs.length

theorem elder_antisymm {G : Lg} (hn : Nums G) {key : ByteArray} {p q : Pl} (hp : G.Has key p) (hq : G.Has key q) (h1 : G.elder p q) (h2 : G.elder q p) : p = q := by
  have hr : G.rank p = G.rank q ∧ p.ix = q.ix := by
    unfold Lg.elder at h1 h2
    omega
  obtain ⟨pop, prg, pix⟩ := p
  obtain ⟨qop, qrg, qix⟩ := q
  obtain ⟨hr, rfl⟩ := hr
  unfold Lg.rank at hr
  obtain ⟨x, _, hx⟩ := hp
  obtain ⟨y, _, hy⟩ := hq
  cases pop with
  | true =>
    cases qop with
    | true =>
      rcases hx with ⟨_, rfl, _⟩ | ⟨h, _⟩
      · rcases hy with ⟨_, rfl, _⟩ | ⟨h, _⟩
        · rfl
        · cases h
      · cases h
    | false =>
      rcases hy with ⟨h, _⟩ | ⟨_, h, _⟩
      · cases h
      · have a1 : rnum G.regs qrg ≤ G.number := (hn _ h).2.1
        have hr' : G.number + 1 = rnum G.regs qrg := hr
        omega
  | false =>
    rcases hx with ⟨h, _⟩ | ⟨_, h, _⟩
    · cases h
    · have a1 : rnum G.regs prg % G.regs.length = prg ∧ rnum G.regs prg ≤ G.number ∧ _ := hn _ h
      cases qop with
      | true =>
        have hr' : rnum G.regs prg = G.number + 1 := hr
        omega
      | false =>
        have hr' : rnum G.regs prg = rnum G.regs qrg := hr
        rcases hy with ⟨h', _⟩ | ⟨_, h', _⟩
        · cases h'
        · have a2 : rnum G.regs qrg % G.regs.length = qrg ∧ _ := hn _ h'
          have e : prg = qrg := by rw [← a1.1, ← a2.1, hr']
          rw [e]
/-- two logs of the same sealed regions, with nothing open, tell the same -/
theorem Fresh.same {G G' : Lg} (hn : Nums G) (h : Fresh G) (h' : Fresh G') (hr : G'.regs = G.regs) (ho : G.opn = []) (ho' : G'.opn = []) (key : ByteArray) : aget G'.keys key = aget G.keys key := by
  have hH : ∀ k p, G'.Has k p ↔ G.Has k p := by
    intro k p
    unfold Lg.Has
    rw [hr, ho, ho']
  have hop : ∀ k p, G.Has k p → p.op = false := by
    rintro k p ⟨x, _, ⟨_, _, hx⟩ | ⟨hx, _⟩⟩
    · rw [ho] at hx; simp at hx
    · exact hx
  have hE : ∀ k p q, G.Has k p → G.Has k q → G'.elder q p → G.elder q p := by
    intro k p q h1 h2 he
    have r1 : G'.rank p = G.rank p := by unfold Lg.rank; rw [hop _ _ h1, hr]; rfl
    have r2 : G'.rank q = G.rank q := by unfold Lg.rank; rw [hop _ _ h2, hr]; rfl
    unfold Lg.elder at he ⊢
    rw [r1, r2] at he
    exact he
  cases hk : aget G.keys key with
  | none =>
    cases hk' : aget G'.keys key with
    | none => rfl
    | some p => exact absurd ((hH _ _).1 (h'.som _ _ hk').1) (h.non _ hk p)
  | some p =>
    obtain ⟨hp, hmax⟩ := h.som _ _ hk
    cases hk' : aget G'.keys key with
    | none => exact absurd ((hH _ _).2 hp) (h'.non _ hk' p)
    | some p' =>
      obtain ⟨hp', hmax'⟩ := h'.som _ _ hk'
      have hp2 := (hH _ _).1 hp'
      rw [elder_antisymm hn hp2 hp (hmax _ hp2) (hE _ _ _ hp2 hp (hmax' _ ((hH _ _).2 hp)))]
theorem items_congr {G G' : Lg} (hr : G'.regs = G.regs) (ho : G'.opn = G.opn) (hk : ∀ key, aget G'.keys key = aget G.keys key) : G'.items = G.items := by
  unfold Lg.items pick
  simp only [hr, ho, hk]

/-! putting -/
theorem Fresh.add {G : Lg} (hn : Nums G) (h : Fresh G) (x : Item) : Fresh (G.add x) ∧ Nums (G.add x) := by
  have hH : ∀ key q, x.key ≠ key → (G.add x).Has key q → G.Has key q := by
    rintro key q hne ⟨y, hy, ⟨h1, h2, h3⟩ | h⟩
    · have h3' : (G.opn ++ [x])[q.ix]? = some y := h3
      rcases Nat.lt_or_ge q.ix G.opn.length with hlt | hge
      · rw [List.getElem?_append_left hlt] at h3'
        exact ⟨y, hy, .inl ⟨h1, h2, h3'⟩⟩
      · rw [List.getElem?_append_right hge] at h3'
        rcases Nat.eq_or_lt_of_le hge with e | e
        · rw [← e] at h3'
          simp at h3'
          exact absurd (by rw [h3']; exact hy) hne
        · rw [List.getElem?_eq_none (by simp; omega)] at h3'
          cases h3'
    · exact ⟨y, hy, .inr h⟩
  have hH2 : ∀ key q, G.Has key q → (G.add x).Has key q := by
    rintro key q ⟨y, hy, ⟨h1, h2, h3⟩ | h⟩
    · refine ⟨y, hy, .inl ⟨h1, h2, ?_⟩⟩
      show (G.opn ++ [x])[q.ix]? = some y
      rw [List.getElem?_append_left (List.getElem?_eq_some_iff.1 h3).1]
      exact h3
    · exact ⟨y, hy, .inr h⟩
  refine ⟨⟨fun key hk p hp => ?_, fun key p hk => ?_⟩, hn⟩
  · have hk' : aget (aset G.keys x.key ⟨true, 0, G.opn.length⟩) key = none := hk
    rw [aget_aset] at hk'
    split at hk'
    · cases hk'
    · rename_i hne
      exact h.non _ hk' p (hH _ _ hne hp)
  · have hk' : aget (aset G.keys x.key ⟨true, 0, G.opn.length⟩) key = some p := hk
    rw [aget_aset] at hk'
    split at hk'
    · rename_i he
      injection hk' with hk'
      subst hk'
      refine ⟨⟨x, he, .inl ⟨rfl, rfl, ?_⟩⟩, fun q hq => ?_⟩
      · show (G.opn ++ [x])[G.opn.length]? = some x
        rw [List.getElem?_append_right (Nat.le_refl _), Nat.sub_self]; rfl
      · obtain ⟨y, hy, ⟨h1, h2, h3⟩ | ⟨h1, h2, h3⟩⟩ := hq
        · have hl := (List.getElem?_eq_some_iff.1 h3).1
          have hl' : q.ix < (G.opn ++ [x]).length := hl
          rw [List.length_append] at hl'
          simp only [List.length_singleton] at hl'
          right
          refine ⟨?_, by show q.ix ≤ G.opn.length; omega⟩
          unfold Lg.rank
          rw [h1]; rfl
        · left
          have := (hn _ h2).2.1
          unfold Lg.rank
          rw [h1]
          show rnum G.regs q.rg < G.number + 1
          omega
    · rename_i hne
      obtain ⟨hp, hm⟩ := h.som _ _ hk'
      exact ⟨hH2 _ _ hp, fun q hq => hm q (hH _ _ hne hq)⟩

/-! sealing -/
theorem rnum_shut (G : Lg) (hp : 0 < G.regs.length) (i : Nat) : rnum G.shut.regs i = if i = G.next then G.number + 1 else rnum G.regs i := by
  have hi : G.next < G.regs.length := Nat.mod_lt _ hp
  unfold rnum Lg.shut
  simp only
  by_cases h : i = G.next
  · rw [if_pos h, h, List.getD_eq_getElem?_getD, List.getElem?_set_self (by simpa using hi)]; rfl
  · rw [if_neg h, List.getD_eq_getElem?_getD, List.getElem?_set_ne (Ne.symm h), List.getElem?_set_ne (Ne.symm h), ← List.getD_eq_getElem?_getD]
theorem rl_shut (G : Lg) (hp : 0 < G.regs.length) (i : Nat) : rl G.shut.regs i = if i = G.next then G.opn else rl G.regs i := by
  have hi : G.next < G.regs.length := Nat.mod_lt _ hp
  unfold rl Lg.shut
  simp only
  by_cases h : i = G.next
  · rw [if_pos h, h, List.getD_eq_getElem?_getD, List.getElem?_set_self (by simpa using hi)]; rfl
  · rw [if_neg h, List.getD_eq_getElem?_getD, List.getElem?_set_ne (Ne.symm h), List.getElem?_set_ne (Ne.symm h), ← List.getD_eq_getElem?_getD]
theorem len_shut (G : Lg) : G.shut.regs.length = G.regs.length := by simp [Lg.shut]
theorem mod_next {m N r : Nat} (h1 : m % r = (N + 1) % r) (h2 : m ≤ N) (h3 : N < m + r) : m + r = N + 1 := by
  have h4 : (N + 1 - m) % r = 0 := by
    have := Nat.sub_mod_eq_zero_of_mod_eq h1.symm
    exact this
  have h5 : 0 < N + 1 - m := by omega
  have h6 : N + 1 - m ≤ r := by omega
  have h7 := Nat.le_of_dvd h5 (Nat.dvd_of_mod_eq_zero h4)
  omega
theorem Nums.shut {G : Lg} (hp : 0 < G.regs.length) (hn : Nums G) : Nums G.shut := by
  intro i hi
  rw [rnum_shut G hp] at hi ⊢
  rw [len_shut]
  show (if i = G.next then G.number + 1 else rnum G.regs i) % G.regs.length = i ∧ _ ≤ G.number + 1 ∧ G.number + 1 < _
  by_cases h : i = G.next
  · rw [if_pos h]
    exact ⟨by rw [h]; rfl, Nat.le_refl _, by omega⟩
  · rw [if_neg h] at hi ⊢
    have := hn i hi
    refine ⟨this.1, by omega, ?_⟩
    rcases Nat.lt_or_ge (G.number + 1) (rnum G.regs i + G.regs.length) with h1 | h1
    · exact h1
    · exfalso
      have e : G.number + 1 = rnum G.regs i + G.regs.length := by omega
      apply h
      rw [← this.1]
      unfold Lg.next
      rw [e, Nat.add_mod_right]
theorem given_get (G : Lg) (ho : G.Ok) (hn : (akeys G.keys).Nodup) (key : ByteArray) : aget G.given.2 key = match aget G.keys key with
    | none => none
    | some p => if p.op = false ∧ p.rg = G.next then none else some p := by
  have hi : G.next < G.regs.length := Nat.mod_lt _ ho.pos
  have hv : ∀ key k, aget G.keys key = some ⟨false, G.next, k⟩ → ∃ x, (rl G.regs G.next)[k]? = some x ∧ x.key = key := by
    intro key k hk
    have := ho.keys key _ hk
    unfold Lg.plOk at this
    simp only [Bool.false_eq_true, if_false] at this
    obtain ⟨S, x, hS, hx, hxk⟩ := this
    refine ⟨x, ?_, hxk⟩
    unfold rl
    rw [List.getD_eq_getElem?_getD, hS]
    exact hx
  have hget := giveT_get G.next G.keys (rl G.regs G.next) hn _ (Nat.le_refl _) key
  have hnone := giveT_none G.next G.keys (rl G.regs G.next) hn hv _ (Nat.le_refl _)
  have hlost := (giveT_lost G.next G.keys (rl G.regs G.next) hn _ (Nat.le_refl _)).2
  have hsub := giveT_sub G.next G.keys (rl G.regs G.next) hn _ (Nat.le_refl _)
  rw [giveT_all] at hget hnone hlost hsub
  change ∀ x ∈ G.given.1, _ at hlost
  change aget G.given.2 key = if hasKey key G.given.1 = true then none else aget G.keys key at hget
  change ∀ key j, aget G.given.2 key = some ⟨false, G.next, j⟩ → _ at hnone
  cases hk : aget G.keys key with
  | none =>
    rw [hk] at hget
    rw [hget]
    simp
  | some p =>
    simp only
    by_cases hpn : p.op = false ∧ p.rg = G.next
    · rw [if_pos hpn]
      obtain ⟨pop, prg, pix⟩ := p
      simp only at hpn
      obtain ⟨rfl, rfl⟩ := hpn
      cases hg : aget G.given.2 key with
      | none => rfl
      | some p' =>
        have hs := hsub key p' hg
        rw [hk] at hs
        injection hs with hs
        subst hs
        have h1 := hnone _ _ hg
        obtain ⟨x, hx, _⟩ := hv _ _ hk
        have h2 := (List.getElem?_eq_some_iff.1 hx).1
        omega
    · rw [if_neg hpn]
      rw [hk] at hget
      rw [hget, if_neg]
      intro hh
      obtain ⟨y, hy, hyk⟩ := List.mem_map.1 ((hasKey_iff _ _).1 hh)
      obtain ⟨j, _, _, hj⟩ := hlost y hy
      rw [hyk, hk] at hj
      injection hj with hj
      subst hj
      exact hpn ⟨rfl, rfl⟩
theorem shut_get (G : Lg) (ho : G.Ok) (hn : (akeys G.keys).Nodup) (key : ByteArray) : aget G.shut.keys key = match aget G.keys key with
    | none => none
    | some p => if p.op = true then some ⟨false, G.next, p.ix⟩ else if p.rg = G.next then none else some p := by
  have hi : G.next < G.regs.length := Nat.mod_lt _ ho.pos
  have hg := ho.gave hn hi
  have hv : ∀ key p, aget G.given.2 key = some p → p.op = true → p.rg = 0 ∧ ∃ x, G.opn[p.ix]? = some x ∧ x.key = key := by
    intro key p hp hop
    have := hg.keys key p hp
    unfold Lg.plOk at this
    rw [if_pos hop] at this
    exact this
  show aget (moveK G.next G.given.2 G.opn) key = _
  rw [← moveT_all, moveT_get _ _ _ hv _ (Nat.le_refl _), given_get G ho hn]
  cases hk : aget G.keys key with
  | none => rfl
  | some p =>
    simp only
    have hok := ho.keys key p hk
    unfold Lg.plOk at hok
    by_cases hop : p.op = true
    · rw [if_pos hop] at hok
      obtain ⟨_, x, hx, _⟩ := hok
      have hlt := (List.getElem?_eq_some_iff.1 hx).1
      rw [if_neg (fun hh => by rw [hop] at hh; cases hh.1), if_pos hop]
      simp [moved, hop, hlt]
    · have hop' : p.op = false := by simpa using hop
      rw [if_neg hop]
      by_cases hr : p.rg = G.next
      · rw [if_pos hr, if_pos ⟨hop', hr⟩]; rfl
      · rw [if_neg hr, if_neg (fun hh => hr hh.2)]
        simp [moved, hop']
theorem Fresh.shut {G : Lg} (ho : G.Ok) (hd : (akeys G.keys).Nodup) (hn : Nums G) (h : Fresh G) : Fresh G.shut := by
  have hp := ho.pos
  have hopn : ∀ key q, G.shut.Has key q → q.op = false ∧ ((q.rg = G.next ∧ G.Has key ⟨true, 0, q.ix⟩) ∨ (q.rg ≠ G.next ∧ G.Has key q)) := by
    rintro key q ⟨y, hy, ⟨h1, h2, h3⟩ | ⟨h1, h2, h3⟩⟩
    · have h3' : ([] : List Item)[q.ix]? = some y := h3
      simp at h3'
    · refine ⟨h1, ?_⟩
      rw [rnum_shut G hp] at h2
      rw [rl_shut G hp] at h3
      by_cases hq : q.rg = G.next
      · rw [if_pos hq] at h3
        exact .inl ⟨hq, y, hy, .inl ⟨rfl, rfl, h3⟩⟩
      · rw [if_neg hq] at h2 h3
        exact .inr ⟨hq, y, hy, .inr ⟨h1, h2, h3⟩⟩
  have hrk : ∀ q : Pl, q.op = false → G.shut.rank q = if q.rg = G.next then G.number + 1 else rnum G.regs q.rg := by
    intro q hq
    unfold Lg.rank
    rw [hq, if_neg (by simp), rnum_shut G hp]
  have hrkG : ∀ q : Pl, q.op = false → G.rank q = rnum G.regs q.rg := by
    intro q hq
    unfold Lg.rank
    rw [hq, if_neg (by simp)]
  refine ⟨fun key hk q hq => ?_, fun key p1 hk => ?_⟩
  · rw [shut_get G ho hd] at hk
    obtain ⟨hqo, hq⟩ := hopn key q hq
    cases hg : aget G.keys key with
    | none =>
      rcases hq with ⟨_, hq⟩ | ⟨_, hq⟩
      · exact h.non _ hg _ hq
      · exact h.non _ hg _ hq
    | some p =>
      rw [hg] at hk
      simp only at hk
      split at hk
      · cases hk
      · rename_i hop
        have hop' : p.op = false := by simpa using hop
        split at hk
        · rename_i hrg
          obtain ⟨⟨x, _, hx⟩, hmax⟩ := h.som _ _ hg
          rcases hx with ⟨h1, _⟩ | ⟨_, h2, _⟩
          · rw [hop'] at h1; cases h1
          · have hnm := hn _ h2
            rcases hq with ⟨_, hq⟩ | ⟨hne, hq⟩
            · have := hmax _ hq
              unfold Lg.elder at this
              rw [hrkG p hop'] at this
              have e : G.rank ⟨true, 0, q.ix⟩ = G.number + 1 := rfl
              rw [e] at this
              omega
            · have := hmax _ hq
              unfold Lg.elder at this
              rw [hrkG p hop', hrkG q hqo] at this
              obtain ⟨y, _, hy⟩ := hq
              rcases hy with ⟨h1, _⟩ | ⟨_, h3, _⟩
              · rw [hqo] at h1; cases h1
              · have hnq := hn _ h3
                have h5 : rnum G.regs p.rg % G.regs.length = (G.number + 1) % G.regs.length := by rw [hnm.1, hrg]; rfl
                have h6 := mod_next h5 hnm.2.1 hnm.2.2
                have h7 : rnum G.regs q.rg = rnum G.regs p.rg := by omega
                apply hne
                rw [← hnq.1, h7, hnm.1]
                exact hrg
        · cases hk
  · rw [shut_get G ho hd] at hk
    cases hg : aget G.keys key with
    | none => rw [hg] at hk; cases hk
    | some p =>
      rw [hg] at hk
      simp only at hk
      obtain ⟨⟨x, hxk, hx⟩, hmax⟩ := h.som _ _ hg
      by_cases hop : p.op = true
      · rw [if_pos hop] at hk
        injection hk with hk
        subst hk
        rcases hx with ⟨_, _, hx⟩ | ⟨h1, _⟩
        · refine ⟨⟨x, hxk, .inr ⟨rfl, ?_, ?_⟩⟩, fun q hq => ?_⟩
          · rw [rnum_shut G hp, if_pos rfl]; omega
          · rw [rl_shut G hp, if_pos rfl]; exact hx
          · obtain ⟨hqo, hq⟩ := hopn key q hq
            unfold Lg.elder
            rw [hrk q hqo, hrk _ rfl, if_pos rfl]
            rcases hq with ⟨hr, hq⟩ | ⟨hr, hq⟩
            · rw [if_pos hr]
              right
              refine ⟨rfl, ?_⟩
              have := hmax _ hq
              unfold Lg.elder Lg.rank at this
              rw [hop] at this
              simp only [if_true] at this
              show q.ix ≤ p.ix
              omega
            · rw [if_neg hr]
              left
              obtain ⟨y, _, hy⟩ := hq
              rcases hy with ⟨h1, _⟩ | ⟨_, h3, _⟩
              · rw [hqo] at h1; cases h1
              · have := (hn _ h3).2.1; omega
        · rw [hop] at h1; cases h1
      · rw [if_neg hop] at hk
        have hop' : p.op = false := by simpa using hop
        split at hk
        · cases hk
        · rename_i hrg
          injection hk with hk
          subst hk
          rcases hx with ⟨h1, _⟩ | ⟨_, h2, h3⟩
          · exact absurd h1 hop
          · refine ⟨⟨x, hxk, .inr ⟨hop', ?_, ?_⟩⟩, fun q hq => ?_⟩
            · rw [rnum_shut G hp, if_neg hrg]; exact h2
            · rw [rl_shut G hp, if_neg hrg]; exact h3
            · obtain ⟨hqo, hq⟩ := hopn key q hq
              unfold Lg.elder
              rw [hrk q hqo, hrk _ hop', if_neg hrg]
              rcases hq with ⟨hr, hq⟩ | ⟨hr, hq⟩
              · exfalso
                have := hmax _ hq
                unfold Lg.elder at this
                rw [hrkG p hop'] at this
                have e : G.rank ⟨true, 0, q.ix⟩ = G.number + 1 := rfl
                rw [e] at this
                have := (hn _ h2).2.1
                omega
              · rw [if_neg hr]
                have := hmax _ hq
                unfold Lg.elder at this
                rw [hrkG p hop', hrkG q hqo] at this
                exact this

/-! opening -/
theorem insR_desc (f : Nat → Nat) (x : Nat) (l : List Nat) (h : l.Pairwise fun a b => f b ≤ f a) : (insR f x l).Pairwise fun a b => f b ≤ f a := by
  induction l with
  | nil => simp [insR]
  | cons y r ih =>
    rw [List.pairwise_cons] at h
    rw [insR]
    split
    · rename_i hlt
      rw [List.pairwise_cons]
      refine ⟨fun z hz => ?_, ih h.2⟩
      rcases (insR_mem f x z r).1 hz with e | e
      · rw [e]; omega
      · exact h.1 z e
    · rename_i hge
      rw [List.pairwise_cons, List.pairwise_cons]
      refine ⟨fun z hz => ?_, h⟩
      rcases List.mem_cons.1 hz with e | e
      · rw [e]; omega
      · have := h.1 z e; omega
theorem byNum_sorted (regs : List Sealed) : (byNum regs).Pairwise fun a b => rnum regs a ≤ rnum regs b := by
  have hd : ∀ l : List Nat, (insL (rnum regs) l).Pairwise fun a b => rnum regs b ≤ rnum regs a := by
    intro l
    rw [← List.reverse_reverse l]
    generalize l.reverse = m
    induction m with
    | nil => simp [insL]
    | cons x r ih =>
      rw [List.reverse_cons, insL_snoc]
      exact insR_desc _ _ _ ih
  exact List.pairwise_reverse.2 (hd _)
theorem byNum_pos {regs : List Sealed} {i : Nat} (h : i ∈ byNum regs) : 0 < rnum regs i := by
  unfold byNum sortR at h
  rw [List.mem_reverse] at h
  have := (insL_mem (rnum regs) i (counts regs)).1 h
  simpa using (List.mem_filter.1 this).2
theorem layK_snoc (i : Nat) (ks : Keys) (l : List Item) (x : Item) : layK i ks (l ++ [x]) = aset (layK i ks l) x.key ⟨false, i, l.length⟩ := by
  unfold layK
  rw [List.zipIdx_append, List.foldl_append]
  simp
theorem layK_at (i : Nat) (ks : Keys) (key : ByteArray) (l : List Item) :
    (∃ (j : Nat) (x : Item), l[j]? = some x ∧ x.key = key ∧ (∀ (j' : Nat) (x' : Item), l[j']? = some x' → x'.key = key → j' ≤ j) ∧ aget (layK i ks l) key = some ⟨false, i, j⟩) ∨ ((∀ (j : Nat) (x : Item), l[j]? = some x → x.key ≠ key) ∧ aget (layK i ks l) key = aget ks key) := by
  rw [← List.reverse_reverse l]
  generalize l.reverse = m
  induction m with
  | nil => exact .inr ⟨fun j x h => by simp at h, rfl⟩
  | cons y r ih =>
    rw [List.reverse_cons]
    generalize r.reverse = l at ih
    rw [layK_snoc, aget_aset]
    have hget : ∀ (j : Nat) (x : Item), (l ++ [y])[j]? = some x → (l[j]? = some x) ∨ (j = l.length ∧ x = y) := by
      intro j x h
      rcases Nat.lt_or_ge j l.length with hlt | hge
      · rw [List.getElem?_append_left hlt] at h; exact .inl h
      · rw [List.getElem?_append_right hge] at h
        rcases Nat.eq_or_lt_of_le hge with e | e
        · rw [← e] at h
          simp at h
          exact .inr ⟨e.symm, h.symm⟩
        · rw [List.getElem?_eq_none (by simp; omega)] at h
          cases h
    by_cases hy : y.key = key
    · rw [if_pos hy]
      refine .inl ⟨l.length, y, by rw [List.getElem?_append_right (Nat.le_refl _), Nat.sub_self]; rfl, hy, fun j' x' h _ => ?_, rfl⟩
      rcases hget j' x' h with h | h
      · exact Nat.le_of_lt (List.getElem?_eq_some_iff.1 h).1
      · omega
    · rw [if_neg hy]
      rcases ih with ⟨j, x, h1, h2, h3, h4⟩ | ⟨h1, h2⟩
      · refine .inl ⟨j, x, by rw [List.getElem?_append_left (List.getElem?_eq_some_iff.1 h1).1]; exact h1, h2, fun j' x' h hx' => ?_, h4⟩
        rcases hget j' x' h with h | ⟨_, h⟩
        · exact h3 j' x' h hx'
        · rw [h] at hx'; exact absurd hx' hy
      · refine .inr ⟨fun j x h hx => ?_, h2⟩
        rcases hget j x h with h | ⟨_, h⟩
        · exact h1 j x h hx
        · rw [h] at hx; exact hy hx
theorem opened_at (regs : List Sealed) (key : ByteArray) (L : List Nat) (hs : L.Pairwise fun a b => rnum regs a ≤ rnum regs b) :
    (aget (L.foldl (fun ks i => layK i ks (rl regs i)) []) key = none ∧ ∀ i ∈ L, ∀ (j : Nat) (x : Item), (rl regs i)[j]? = some x → x.key ≠ key) ∨
      ∃ (i j : Nat) (x : Item), aget (L.foldl (fun ks i => layK i ks (rl regs i)) []) key = some ⟨false, i, j⟩ ∧ i ∈ L ∧ (rl regs i)[j]? = some x ∧ x.key = key ∧ ∀ i' ∈ L, ∀ (j' : Nat) (x' : Item), (rl regs i')[j']? = some x' → x'.key = key → rnum regs i' ≤ rnum regs i ∧ (i' = i → j' ≤ j) := by
  rw [← List.reverse_reverse L] at hs ⊢
  generalize L.reverse = m at hs ⊢
  induction m with
  | nil => exact .inl ⟨rfl, fun i hi => by simp at hi⟩
  | cons y r ih =>
    rw [List.reverse_cons] at hs ⊢
    generalize r.reverse = L at ih hs ⊢
    rw [List.pairwise_append] at hs
    have ih := ih hs.1
    rw [List.foldl_append]
    simp only [List.foldl_cons, List.foldl_nil]
    rcases layK_at y (L.foldl (fun ks i => layK i ks (rl regs i)) []) key (rl regs y) with ⟨j, x, h1, h2, h3, h4⟩ | ⟨h1, h2⟩
    · refine .inr ⟨y, j, x, h4, by simp, h1, h2, fun i' hi' j' x' hx' hk' => ?_⟩
      rcases List.mem_append.1 hi' with h | h
      · refine ⟨hs.2.2 i' h y (by simp), fun e => ?_⟩
        subst e
        exact h3 j' x' hx' hk'
      · simp only [List.mem_singleton] at h
        subst h
        exact ⟨Nat.le_refl _, fun _ => h3 j' x' hx' hk'⟩
    · rw [h2]
      rcases ih with ⟨h5, h6⟩ | ⟨i, j, x, h5, h6, h7, h8, h9⟩
      · refine .inl ⟨h5, fun i hi j x hx => ?_⟩
        rcases List.mem_append.1 hi with h | h
        · exact h6 i h j x hx
        · simp only [List.mem_singleton] at h
          subst h
          exact h1 j x hx
      · refine .inr ⟨i, j, x, h5, List.mem_append_left _ h6, h7, h8, fun i' hi' j' x' hx' hk' => ?_⟩
        rcases List.mem_append.1 hi' with h | h
        · exact h9 i' h j' x' hx' hk'
        · simp only [List.mem_singleton] at h
          subst h
          exact absurd hk' (h1 j' x' hx')
theorem Fresh.opened {D : Dev} {first n : Nat} (hn : Nums (Lg.opened D first n)) : Fresh (Lg.opened D first n) := by
  have hin : ∀ i, i < (opRegs D first n).length → 0 < rnum (opRegs D first n) i → i ∈ byNum (opRegs D first n) := fun i hi h0 => byNum_mem hi h0
  have hH : ∀ key q, (Lg.opened D first n).Has key q → q.op = false ∧ q.rg ∈ byNum (opRegs D first n) ∧ ∃ x, (rl (opRegs D first n) q.rg)[q.ix]? = some x ∧ x.key = key := by
    rintro key q ⟨x, hx, ⟨h1, h2, h3⟩ | ⟨h1, h2, h3⟩⟩
    · have h3' : ([] : List Item)[q.ix]? = some x := h3
      simp at h3'
    · have h2' : 0 < rnum (opRegs D first n) q.rg := h2
      refine ⟨h1, hin _ ?_ h2', x, h3, hx⟩
      rcases Nat.lt_or_ge q.rg (opRegs D first n).length with h | h
      · exact h
      · unfold rnum at h2'
        rw [List.getD_eq_getElem?_getD, List.getElem?_eq_none h] at h2'
        simp [Sealed.no] at h2'
  refine ⟨fun key hk q hq => ?_, fun key p hk => ?_⟩
  · rcases opened_at (opRegs D first n) key (byNum (opRegs D first n)) (byNum_sorted _) with ⟨h1, h2⟩ | ⟨i, j, x, h1, _⟩
    · obtain ⟨_, hm, x, hx, hxk⟩ := hH key q hq
      exact h2 _ hm _ _ hx hxk
    · have hk' : aget ((byNum (opRegs D first n)).foldl (fun ks i => layK i ks (rl (opRegs D first n) i)) []) key = none := hk
      rw [h1] at hk'
      cases hk'
  · have hk' : aget ((byNum (opRegs D first n)).foldl (fun ks i => layK i ks (rl (opRegs D first n) i)) []) key = some p := hk
    rcases opened_at (opRegs D first n) key (byNum (opRegs D first n)) (byNum_sorted _) with ⟨h1, h2⟩ | ⟨i, j, x, h1, h2, h3, h4, h5⟩
    · rw [h1] at hk'
      cases hk'
    · rw [h1] at hk'
      injection hk' with hk'
      subst hk'
      have hpos := byNum_pos h2
      refine ⟨⟨x, h4, .inr ⟨rfl, hpos, h3⟩⟩, fun q hq => ?_⟩
      obtain ⟨hqo, hm, y, hy, hyk⟩ := hH key q hq
      have h6 := h5 _ hm _ _ hy hyk
      unfold Lg.elder Lg.rank
      rw [hqo]
      simp only [Bool.false_eq_true, if_false]
      show rnum (opRegs D first n) q.rg < rnum (opRegs D first n) i ∨ rnum (opRegs D first n) q.rg = rnum (opRegs D first n) i ∧ q.ix ≤ j
      rcases Nat.lt_or_ge (rnum (opRegs D first n) q.rg) (rnum (opRegs D first n) i) with h | h
      · exact .inl h
      · right
        have e : rnum (opRegs D first n) q.rg = rnum (opRegs D first n) i := by omega
        have n1 := (hn q.rg (byNum_pos hm)).1
        have n2 := (hn i hpos).1
        have n1' : rnum (opRegs D first n) q.rg % (Lg.opened D first n).regs.length = q.rg := n1
        have n2' : rnum (opRegs D first n) i % (Lg.opened D first n).regs.length = i := n2
        exact ⟨e, h6.2 (by rw [← n1', e, n2'])⟩

/-! the items that are told -/
theorem items_mem {G : Lg} {x : Item} (h : x ∈ G.items) : ∃ p, aget G.keys x.key = some p ∧ G.item p = x ∧ ((p.op = true ∧ p.rg = 0 ∧ G.opn[p.ix]? = some x) ∨ (p.op = false ∧ p.rg ∈ byNum G.regs ∧ (rl G.regs p.rg)[p.ix]? = some x)) := by
  rw [items_pl] at h
  obtain ⟨q, hq, rfl⟩ := List.mem_map.1 h
  obtain ⟨hm, hg⟩ := List.mem_filter.1 hq
  unfold plGood at hg
  simp only [decide_eq_true_eq] at hg
  refine ⟨q.2, hg, ?_⟩
  have hz : ∀ (l : List Item) (p : Item × Nat), p ∈ l.zipIdx → l[p.2]? = some p.1 := fun l p hp => List.mem_zipIdx_iff_getElem?.1 hp
  unfold allPl at hm
  rcases List.mem_append.1 hm with hm | hm
  · obtain ⟨i, hi, hm⟩ := List.mem_flatMap.1 hm
    obtain ⟨p, hp, rfl⟩ := List.mem_map.1 hm
    have := hz _ _ hp
    refine ⟨?_, .inr ⟨rfl, hi, this⟩⟩
    show (if false = true then _ else (rl G.regs i).getD p.2 Item.zero) = p.1
    rw [if_neg (by simp), List.getD_eq_getElem?_getD, this]; rfl
  · obtain ⟨p, hp, rfl⟩ := List.mem_map.1 hm
    have := hz _ _ hp
    refine ⟨?_, .inl ⟨rfl, rfl, this⟩⟩
    show (if true = true then G.opn.getD p.2 Item.zero else _) = p.1
    rw [if_pos rfl, List.getD_eq_getElem?_getD, this]; rfl
theorem mem_items {G : Lg} {x : Item} {i j : Nat} (hk : aget G.keys x.key = some ⟨false, i, j⟩) (hi : i ∈ byNum G.regs) (hx : (rl G.regs i)[j]? = some x) : x ∈ G.items := by
  rw [items_pl]
  refine List.mem_map.2 ⟨(x, ⟨false, i, j⟩), List.mem_filter.2 ⟨?_, ?_⟩, rfl⟩
  · unfold allPl
    refine List.mem_append_left _ (List.mem_flatMap.2 ⟨i, hi, List.mem_map.2 ⟨(x, j), List.mem_zipIdx_iff_getElem?.2 hx, rfl⟩⟩)
  · unfold plGood
    simpa using hk
end Go.Proofs.YtplpbbdakihnfaaGreat

/- Two pages of a region in each other's place, in plain Lean. -/
namespace Go.Proofs.YtplpbbdakihnfaaGreat
open Go.RowKit
set_option linter.unusedSimpArgs false
set_option linter.unusedVariables false

theorem nums_new (n r : Nat) : Nums (Lg.opened (Dev.new n) 0 r) := by
  rw [opened_new]
  intro i hi
  exfalso
  unfold rnum at hi
  simp only [List.getD_eq_getElem?_getD, List.getElem?_replicate] at hi
  split at hi <;> simp [Sealed.no] at hi
theorem fresh_new (n r : Nat) : Fresh (Lg.opened (Dev.new n) 0 r) := Fresh.opened (nums_new n r)
theorem Live.fresh_sl {G : Lg} {D : Dev} (h : Live G D) (hn : G.number + 1 < 18446744073709551616) (hN : Nums G) (hF : Fresh G) : Nums (G.sl D).G ∧ Fresh (G.sl D).G := by
  have hs := h.sl hn
  by_cases h0 : G.opn = []
  · rw [hs.2.2.1 h0]; exact ⟨hN, hF⟩
  · rw [hs.2.2.2 h0]; exact ⟨hN.shut h.ok.pos, hF.shut h.ok h.nd hN⟩
theorem Live.fresh_put {G : Lg} {D : Dev} (h : Live G D) (hn : G.number + 1 < 18446744073709551616) (hN : Nums G) (hF : Fresh G) (x : Item) : Nums (G.put D x).G ∧ Fresh (G.put D x).G := by
  have hs := h.fresh_sl hn hN hF
  unfold Lg.put
  split
  · split
    · have := hF.add hN x; exact ⟨this.2, this.1⟩
    · split
      · have := hs.2.add hs.1 x; exact ⟨this.2, this.1⟩
      · exact hs
  · exact ⟨hN, hF⟩
end Go.Proofs.YtplpbbdakihnfaaGreat

namespace Go.Proofs.YtplpbbdakihnfaaGreat
open Go.RowKit
set_option linter.unusedSimpArgs false
set_option linter.unusedVariables false

/-! a region that counts -/
theorem ldS_pos {P : Nat → Pg} (h : 0 < (ldS P).num) : (∀ k, k < 4 → (P k).rn k = (ldS P).num) ∧ listOf (ldB P 4) = some (ldS P).l := by
  unfold ldS at h ⊢
  cases hl : listOf (ldB P 4) with
  | none => rw [hl] at h; simp [Sealed.no] at h
  | some l =>
    rw [hl] at h
    simp only at h ⊢
    split at h
    · rename_i hc
      rw [if_pos hc]
      refine ⟨?_, rfl⟩
      have e : ldNums P 4 = [(P 0).rn 0, (P 1).rn 1, (P 2).rn 2, (P 3).rn 3] := rfl
      have hm := hc.1
      rw [e] at hm
      simp only [listMin, listMax, List.tail_cons, List.headD_cons, List.foldl_cons, List.foldl_nil] at hm
      intro k hk
      match k, hk with
      | 0, _ => rfl
      | 1, _ => show (P 1).rn 1 = (P 0).rn 0; omega
      | 2, _ => show (P 2).rn 2 = (P 0).rn 0; omega
      | 3, _ => show (P 3).rn 3 = (P 0).rn 0; omega
    · simp [Sealed.no] at h
theorem ldS_congr {P Q : Nat → Pg} (h : ∀ k, k < 4 → P k = Q k) : ldS P = ldS Q := by
  have hB : ldB P 4 = ldB Q 4 := by
    have e : ∀ P : Nat → Pg, ldB P 4 = (P 0).rb 0 ++ ((P 1).rb 1 ++ ((P 2).rb 2 ++ ((P 3).rb 3 ++ []))) := fun P => rfl
    rw [e, e, h 0 (by omega), h 1 (by omega), h 2 (by omega), h 3 (by omega)]
  have hN : ldNums P 4 = ldNums Q 4 := by
    have e : ∀ P : Nat → Pg, ldNums P 4 = [(P 0).rn 0, (P 1).rn 1, (P 2).rn 2, (P 3).rn 3] := fun P => rfl
    rw [e, e, h 0 (by omega), h 1 (by omega), h 2 (by omega), h 3 (by omega)]
  unfold ldS
  rw [hB, hN, h 0 (by omega)]
theorem rn_rs {p : Pg} {k : Nat} (h : 0 < p.rn k) : p.rs = p.rn k := by
  cases p with
  | blank => simp [Pg.rn] at h
  | torn => simp [Pg.rn] at h
  | full b =>
    have h' : 0 < rgN b k := h
    show rgN b _ = rgN b k
    unfold rgN at h'
    split at h'
    · rename_i hf
      have hf2 := hf
      unfold rgForm at hf2
      simp only [Bool.and_eq_true, decide_eq_true_eq] at hf2
      rw [hf2.2.1]
    · simp at h'
theorem ldTop_four (P : Nat → Pg) (m : Nat) : ldTop P m 4 = max (max (max (max m (P 0).rs) (P 1).rs) (P 2).rs) (P 3).rs := rfl
theorem opTopT_le {D : Dev} {first B : Nat} : ∀ i, (∀ j, j < i → ∀ k, k < 4 → (D.rpg first j k).rs ≤ B) → opTopT D first i ≤ B := by
  intro i
  induction i with
  | zero => intro _; simp [opTopT]
  | succ i ih =>
    intro h
    have h0 := h i (by omega) 0 (by omega)
    have h1 := h i (by omega) 1 (by omega)
    have h2 := h i (by omega) 2 (by omega)
    have h3 := h i (by omega) 3 (by omega)
    have := ih (fun j hj => h j (by omega))
    rw [opTopT_succ, ldTop_four]
    omega
theorem opTopT_ge {D : Dev} {first : Nat} : ∀ i j, j < i → ∀ k, k < 4 → (D.rpg first j k).rs ≤ opTopT D first i := by
  intro i
  induction i with
  | zero => intro j hj; omega
  | succ i ih =>
    intro j hj k hk
    rw [opTopT_succ, ldTop_four]
    by_cases e : j = i
    · subst e
      match k, hk with
      | 0, _ => omega
      | 1, _ => omega
      | 2, _ => omega
      | 3, _ => omega
    · have := ih j (by omega) k hk
      omega
theorem opRegs_get (D : Dev) (first n i : Nat) (h : i < n) : (opRegs D first n)[i]? = some (ldS (D.rpg first i)) := by
  unfold opRegs
  rw [List.getElem?_map, List.getElem?_range h]; rfl
theorem opened_rnum (D : Dev) (first n i : Nat) : rnum (Lg.opened D first n).regs i = if i < n then (ldS (D.rpg first i)).num else 0 := by
  show ((opRegs D first n).getD i .no).num = _
  rw [List.getD_eq_getElem?_getD]
  split
  · rename_i h; rw [opRegs_get _ _ _ _ h]; rfl
  · rename_i h; rw [List.getElem?_eq_none (by rw [opRegs_len]; omega)]; rfl
theorem opened_rl (D : Dev) (first n i : Nat) (h : i < n) : rl (Lg.opened D first n).regs i = (ldS (D.rpg first i)).l := by
  show ((opRegs D first n).getD i .no).l = _
  rw [List.getD_eq_getElem?_getD, opRegs_get _ _ _ _ h]; rfl
theorem opened_len (D : Dev) (first n : Nat) : (Lg.opened D first n).regs.length = n := opRegs_len D first n

/-! a device whose power may go -/
end Go.Proofs.YtplpbbdakihnfaaGreat
end

/- What the buckets hold, in plain Lean: each item stands in its key's bucket, no key twice, each filter knows its keys. -/
section
namespace Go.Proofs.YtplpbbdakihnfaaGreat
open Go.RowKit
set_option linter.unusedSimpArgs false
set_option linter.unusedVariables false

def keys (l : List Item) : List ByteArray := l.map (·.key)
theorem mem_rid {l : List Item} {key : ByteArray} {y : Item} : y ∈ rid l key ↔ y ∈ l ∧ y.key ≠ key := by
  simp [rid, keyed]
theorem keys_rid_sub (l : List Item) (key : ByteArray) : (keys (rid l key)).Sublist (keys l) := List.filter_sublist.map _
theorem key_not_rid (l : List Item) (key : ByteArray) : key ∉ keys (rid l key) := by
  simp only [keys, List.mem_map, not_exists, not_and]
  intro x hx
  exact (mem_rid.1 hx).2
theorem nodup_pnew {l : List Item} {x : Item} (h : (keys l).Nodup) : (keys (pnew l x)).Nodup := by
  unfold pnew keys
  rw [List.map_append, List.nodup_append]
  refine ⟨(keys_rid_sub l x.key).nodup h, by simp, ?_⟩
  intro a ha b hb
  simp only [List.map_cons, List.map_nil, List.mem_singleton] at hb
  subst hb
  rintro rfl
  exact key_not_rid l _ ha
theorem pnew_split (l : List Item) (x : Item) : pout l x ++ pleft l x = pnew l x := List.take_append_drop _ _
theorem records_one (x : Item) : (records [x]).length = x.size := by simp [records, record_length]
theorem fitN_last (l : List Item) (x : Item) (h : x.size ≤ 384) : fitN (l ++ [x]) ≤ l.length := by
  induction l with
  | nil =>
    rw [List.nil_append, fitN, if_neg (by rw [records_one]; omega)]
    exact Nat.le_refl _
  | cons y r ih =>
    rw [List.cons_append, fitN]
    split
    · simp only [List.length_cons]; omega
    · exact Nat.zero_le _
theorem pout_eq (l : List Item) (x : Item) (h : x.size ≤ 384) : pout l x = (rid l x.key).take (fitN (pnew l x)) := by
  unfold pout
  rw [show pnew l x = rid l x.key ++ [x] from rfl]
  exact List.take_append_of_le_length (fitN_last _ x h)
theorem pleft_eq (l : List Item) (x : Item) (h : x.size ≤ 384) : pleft l x = (rid l x.key).drop (fitN (pnew l x)) ++ [x] := by
  unfold pleft
  rw [show pnew l x = rid l x.key ++ [x] from rfl]
  exact List.drop_append_of_le_length (fitN_last _ x h)
theorem mem_pleft (l : List Item) (x : Item) (h : x.size ≤ 384) : x ∈ pleft l x := by rw [pleft_eq l x h]; simp
theorem pleft_sub {l : List Item} {x y : Item} (h : y ∈ pleft l x) : y = x ∨ (y ∈ l ∧ y.key ≠ x.key) := by
  have h1 : y ∈ pnew l x := List.mem_of_mem_drop h
  unfold pnew at h1
  rcases List.mem_append.1 h1 with h1 | h1
  · exact .inr (mem_rid.1 h1)
  · exact .inl (by simpa using h1)
theorem pout_sub {l : List Item} {x y : Item} (hx : x.size ≤ 384) (h : y ∈ pout l x) : y ∈ l ∧ y.key ≠ x.key := by
  rw [pout_eq l x hx] at h
  exact mem_rid.1 (List.mem_of_mem_take h)
/-- what has to go, had to -/
theorem fitN_need : ∀ (l : List Item), 0 < fitN l → 384 < (records (l.drop (fitN l - 1))).length := by
  intro l
  induction l with
  | nil => intro h; simp [fitN] at h
  | cons x r ih =>
    intro h
    rw [fitN] at h ⊢
    by_cases h1 : 384 < (records (x :: r)).length
    · rw [if_pos h1] at h ⊢
      by_cases h2 : fitN r = 0
      · rw [h2]; simpa using h1
      · have := ih (by omega)
        rw [show fitN r + 1 - 1 = fitN r - 1 + 1 from by omega, List.drop_succ_cons]
        exact this
    · rw [if_neg h1] at h; exact absurd h (by omega)

/-- each item stands in its key's bucket, no key twice, each filter knows its bucket's keys -/
structure Fine (B : Sto) (ls : List (List Item)) : Prop where
  home : ∀ (i : Nat) (l : List Item), ls[i]? = some l → ∀ x ∈ l, B.no x.key = i
  apart : ∀ (i : Nat) (l : List Item), ls[i]? = some l → (keys l).Nodup
  bits : ∀ (i : Nat) (bs : List Bool), B.fs[i]? = some bs → bs.length = 256
  told : ∀ (i : Nat) (l : List Item) (bs : List Bool), ls[i]? = some l → B.fs[i]? = some bs → ∀ x ∈ l, fmay bs (places 256 3 x.key.data.toList) = true

section
variable {B : Sto} {ls : List (List Item)}
theorem add_no (B : Sto) (x : Item) (key : ByteArray) : (B.add x).no key = B.no key := by unfold Sto.no; rw [show (B.add x).fs.length = B.fs.length from by simp [Sto.add]]
theorem Fine.put (h : Fine B ls) (x : Item) (hx : x.size ≤ 384) {l : List Item} (hl : ls[B.no x.key]? = some l) : Fine (B.add x) (ls.set (B.no x.key) (pleft l x)) := by
  have hlt : B.no x.key < ls.length := (List.getElem?_eq_some_iff.1 hl).1
  refine { home := ?_, apart := ?_, bits := ?_, told := ?_ }
  · intro i l' hi y hy
    rw [add_no]
    by_cases hij : B.no x.key = i
    · subst hij
      rw [List.getElem?_set_self hlt] at hi
      injection hi with hi
      subst hi
      rcases pleft_sub hy with rfl | ⟨h1, _⟩
      · rfl
      · exact h.home _ _ hl y h1
    · rw [List.getElem?_set_ne hij] at hi
      exact h.home _ _ hi y hy
  · intro i l' hi
    by_cases hij : B.no x.key = i
    · subst hij
      rw [List.getElem?_set_self hlt] at hi
      injection hi with hi
      subst hi
      exact ((List.drop_sublist _ _).map _).nodup (nodup_pnew (h.apart _ _ hl))
    · rw [List.getElem?_set_ne hij] at hi
      exact h.apart _ _ hi
  · intro i bs hb
    simp only [Sto.add, List.getElem?_modify] at hb
    cases hf : B.fs[i]? with
    | none => rw [hf] at hb; cases hb
    | some b0 =>
      rw [hf] at hb
      replace hb : (if B.no x.key = i then fadd b0 (places 256 3 x.key.data.toList) else b0) = bs := Option.some.inj hb
      have := h.bits i b0 hf
      subst hb
      split
      · rw [fadd_length]; exact this
      · exact this
  · intro i l' bs hi hb y hy
    simp only [Sto.add, List.getElem?_modify] at hb
    cases hf : B.fs[i]? with
    | none => rw [hf] at hb; cases hb
    | some b0 =>
      rw [hf] at hb
      replace hb : (if B.no x.key = i then fadd b0 (places 256 3 x.key.data.toList) else b0) = bs := Option.some.inj hb
      have hb0 := h.bits i b0 hf
      by_cases hij : B.no x.key = i
      · subst hij
        rw [if_pos rfl] at hb
        subst hb
        rw [List.getElem?_set_self hlt] at hi
        injection hi with hi
        subst hi
        rcases pleft_sub hy with rfl | ⟨h1, _⟩
        · exact fmay_fadd _ _ (fun i hi => by rw [hb0]; exact places_lt (by decide) _ _ i hi)
        · exact fmay_keeps _ _ _ (h.told _ _ _ hl hf y h1)
      · rw [if_neg hij] at hb
        subst hb
        rw [List.getElem?_set_ne hij] at hi
        exact h.told _ _ _ hi hf y hy
theorem Fine.drop (h : Fine B ls) (key : ByteArray) {l : List Item} (hl : ls[B.no key]? = some l) : Fine B (ls.set (B.no key) (rid l key)) := by
  have hlt : B.no key < ls.length := (List.getElem?_eq_some_iff.1 hl).1
  have hk : ∀ (i : Nat) (l' : List Item), (ls.set (B.no key) (rid l key))[i]? = some l' → ∃ l0, ls[i]? = some l0 ∧ l'.Sublist l0 := by
    intro i l' hi
    by_cases hij : B.no key = i
    · subst hij
      rw [List.getElem?_set_self hlt] at hi
      injection hi with hi
      subst hi
      exact ⟨l, hl, List.filter_sublist⟩
    · rw [List.getElem?_set_ne hij] at hi
      exact ⟨l', hi, List.Sublist.refl _⟩
  refine { home := ?_, apart := ?_, bits := h.bits, told := ?_ }
  · intro i l' hi y hy
    obtain ⟨l0, h0, hs⟩ := hk i l' hi
    exact h.home i l0 h0 y (hs.subset hy)
  · intro i l' hi
    obtain ⟨l0, h0, hs⟩ := hk i l' hi
    exact (hs.map _).nodup (h.apart i l0 h0)
  · intro i l' bs hi hb y hy
    obtain ⟨l0, h0, hs⟩ := hk i l' hi
    exact h.told i l0 bs h0 hb y (hs.subset hy)
theorem new_fine (n pages : Nat) : Fine (Sto.open_ (Dev.new n) 0 pages) (List.replicate pages []) := by
  have hr : ∀ (i : Nat) (l : List Item), (List.replicate pages ([] : List Item))[i]? = some l → l = [] := by
    intro i l hi
    rw [List.getElem?_replicate] at hi
    split at hi
    · injection hi with hi; exact hi.symm
    · cases hi
  refine { home := ?_, apart := ?_, bits := ?_, told := ?_ }
  · intro i l hi x hx; rw [hr i l hi] at hx; cases hx
  · intro i l hi; rw [hr i l hi]; exact List.nodup_nil
  · intro i bs hb
    unfold Sto.open_ at hb
    simp only [List.getElem?_map, List.getElem?_range'] at hb
    cases hi : (List.range pages)[i]? with
    | none => rw [hi] at hb; cases hb
    | some j =>
      rw [hi] at hb
      simp only [Option.map_some, Option.some.injEq] at hb
      subst hb
      have : ∀ (l : List Item) (bs : List Bool), (told l bs).length = bs.length := by
        intro l
        induction l with
        | nil => intro bs; rfl
        | cons x r ih => intro bs; show (told r _).length = _; rw [ih, fadd_length]
      rw [this, List.length_replicate]
  · intro i l bs hi hb x hx; rw [hr i l hi] at hx; cases hx
theorem Fine.may (h : Fine B ls) (hp : ls.length = B.fs.length) {i : Nat} {l : List Item} (hl : ls[i]? = some l) {x : Item} (hx : x ∈ l) : B.may x.key = true := by
  unfold Sto.may
  rw [h.home i l hl x hx]
  have hlt : i < B.fs.length := by rw [← hp]; exact (List.getElem?_eq_some_iff.1 hl).1
  have hb := List.getElem?_eq_getElem hlt
  rw [List.getD_eq_getElem?_getD, hb, Option.getD_some]
  exact h.told i l _ hl hb x hx
/-- a key's item in its bucket -/
theorem find_keyed {l : List Item} (hn : (keys l).Nodup) {x : Item} (hx : x ∈ l) : l.find? (keyed x.key) = some x := by
  induction l with
  | nil => cases hx
  | cons y r ih =>
    simp only [keys, List.map_cons, List.nodup_cons] at hn
    rcases List.mem_cons.1 hx with rfl | hx
    · rw [List.find?_cons_of_pos (by simp [keyed])]
    · rw [List.find?_cons_of_neg]
      · exact ih hn.2 hx
      · simp only [keyed, decide_eq_true_eq]
        intro e
        exact hn.1 (by rw [e]; exact List.mem_map_of_mem (f := (·.key)) hx)
theorem nodup_of_keys {l : List Item} (h : (keys l).Nodup) : l.Nodup := nodup_of_map _ h
theorem mem_flat {y : Item} : y ∈ ls.flatten ↔ ∃ (i : Nat) (l : List Item), ls[i]? = some l ∧ y ∈ l := by
  rw [List.mem_flatten]
  constructor
  · rintro ⟨l, hl, hy⟩
    obtain ⟨i, hi⟩ := List.mem_iff_getElem?.1 hl
    exact ⟨i, l, hi, hy⟩
  · rintro ⟨i, l, hi, hy⟩
    exact ⟨l, List.mem_of_getElem? hi, hy⟩
theorem keys_flat_nodup : ∀ (ls : List (List Item)) (f : ByteArray → Nat) (n : Nat), (∀ (i : Nat) (l : List Item), ls[i]? = some l → (∀ x ∈ l, f x.key = n + i) ∧ (keys l).Nodup) → (keys ls.flatten).Nodup := by
  intro ls
  induction ls with
  | nil => intro f n h; exact List.nodup_nil
  | cons l r ih =>
    intro f n h
    have h0 := h 0 l rfl
    have hr := ih f (n + 1) (fun i l' hi => by
      have := h (i + 1) l' hi
      exact ⟨fun x hx => by rw [this.1 x hx]; omega, this.2⟩)
    unfold keys
    rw [List.flatten_cons, List.map_append, List.nodup_append]
    refine ⟨h0.2, hr, ?_⟩
    rintro a ha b hb rfl
    obtain ⟨x, hx, e1⟩ := List.mem_map.1 ha
    obtain ⟨y, hy, e2⟩ := List.mem_map.1 hb
    obtain ⟨i, l', hi, hy'⟩ := mem_flat.1 hy
    have h1 := h0.1 x hx
    have h2 := (h (i + 1) l' hi).1 y hy'
    rw [e1] at h1
    rw [e2] at h2
    omega
theorem Fine.flat (h : Fine B ls) : (keys ls.flatten).Nodup := keys_flat_nodup ls B.no 0 (fun i l hi => ⟨fun x hx => by rw [Nat.zero_add]; exact h.home i l hi x hx, h.apart i l hi⟩)

end
end Go.Proofs.YtplpbbdakihnfaaGreat
end
