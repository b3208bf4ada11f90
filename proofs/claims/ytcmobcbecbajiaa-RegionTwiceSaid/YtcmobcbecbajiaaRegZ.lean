/- layer 9's without, walked. -/
import Derived.Test.YtcmobcbecbajiaaRegS
import Derived.Test.YtcmobcbecbajiaaRegN
import Derived.Test.YtcmobcbecbajiaaRegU
/- What a log tells, key by key, in plain Lean; how many items it tells. -/
namespace Go.Proofs.Ytcmobcbecbajiaa
open Go.RowKit
set_option linter.unusedSimpArgs false
set_option linter.unusedVariables false

/-! what give lets go -/
def keysOf (l : List Item) : List ByteArray := l.map (·.key)
def hasKey (key : ByteArray) (l : List Item) : Bool := l.any fun x => decide (x.key = key)
theorem hasKey_iff (key : ByteArray) (l : List Item) : hasKey key l = true ↔ key ∈ keysOf l := by
  unfold hasKey keysOf
  rw [List.any_eq_true, List.mem_map]
  exact ⟨fun ⟨x, h1, h2⟩ => ⟨x, h1, by simpa using h2⟩, fun ⟨x, h1, h2⟩ => ⟨x, h1, by simpa using h2⟩⟩
theorem hasKey_snoc (key : ByteArray) (l : List Item) (x : Item) : hasKey key (l ++ [x]) = (hasKey key l || decide (x.key = key)) := by
  unfold hasKey
  rw [List.any_append]
  simp
theorem giveT_get (i : Nat) (ks : Keys) (l : List Item) (hn : (akeys ks).Nodup) (k : Nat) (hk : k ≤ l.length) (key : ByteArray) :
    aget (giveT i ks l k).2 key = if hasKey key (giveT i ks l k).1 = true then none else aget ks key := by
  induction k with
  | zero => simp [giveT_zero, hasKey]
  | succ k ih =>
    have ih := ih (by omega)
    have hnd := giveT_nodup i ks l hn k (by omega)
    rw [giveT_succ i ks (List.getElem?_eq_getElem (by omega : k < l.length))]
    unfold giveS
    split
    · rename_i h
      simp only
      rw [aget_adel _ hnd, hasKey_snoc]
      by_cases hx : l[k].key = key
      · rw [if_pos hx, decide_eq_true hx, Bool.or_true, if_pos rfl]
      · rw [if_neg hx, ih, decide_eq_false hx, Bool.or_false]
    · exact ih
theorem giveT_lost (i : Nat) (ks : Keys) (l : List Item) (hn : (akeys ks).Nodup) (k : Nat) (hk : k ≤ l.length) :
    (keysOf (giveT i ks l k).1).Nodup ∧ ∀ x ∈ (giveT i ks l k).1, ∃ j, j < k ∧ l[j]? = some x ∧ aget ks x.key = some ⟨false, i, j⟩ := by
  induction k with
  | zero => exact ⟨by simp [giveT_zero, keysOf], fun x hx => by simp [giveT_zero] at hx⟩
  | succ k ih =>
    obtain ⟨ih1, ih2⟩ := ih (by omega)
    have hlt : k < l.length := by omega
    rw [giveT_succ i ks (List.getElem?_eq_getElem hlt)]
    unfold giveS
    split
    · rename_i h
      simp only at h
      have hg := giveT_get i ks l hn k (by omega) l[k].key
      rw [h] at hg
      have hno : l[k].key ∉ keysOf (giveT i ks l k).1 := fun hm => by rw [if_pos ((hasKey_iff _ _).2 hm)] at hg; cases hg
      rw [if_neg (fun hh => hno ((hasKey_iff _ _).1 hh))] at hg
      refine ⟨?_, fun x hx => ?_⟩
      · simp only [keysOf, List.map_append, List.map_cons, List.map_nil] at ih1 hno ⊢
        rw [List.nodup_append]
        refine ⟨ih1, by simp, fun a ha b hb => ?_⟩
        simp only [List.mem_singleton] at hb
        rw [hb]
        rintro rfl
        exact hno ha
      · rcases List.mem_append.1 hx with hx | hx
        · obtain ⟨j, h1, h2⟩ := ih2 x hx
          exact ⟨j, by omega, h2⟩
        · simp only [List.mem_singleton] at hx
          subst hx
          exact ⟨k, by omega, List.getElem?_eq_getElem hlt, hg.symm⟩
    · refine ⟨ih1, fun x hx => ?_⟩
      obtain ⟨j, h1, h2⟩ := ih2 x hx
      exact ⟨j, by omega, h2⟩

/-- what a log tells of a key -/
def Lg.view (G : Lg) (key : ByteArray) : Option Item := (aget G.keys key).map G.item
theorem Lg.get_view (G : Lg) (key : ByteArray) : G.get key = (G.view key).getD Item.zero ∧ G.getE key = if (G.view key).isSome then 0 else 5 := by
  unfold Lg.get Lg.getE Lg.has Lg.view
  cases aget G.keys key <;> simp
theorem Lg.view_add (G : Lg) (ho : G.Ok) (x : Item) (key : ByteArray) : (G.add x).view key = if x.key = key then some x else G.view key := by
  unfold Lg.view
  show (aget (aset G.keys x.key ⟨true, 0, G.opn.length⟩) key).map (G.add x).item = _
  rw [aget_aset]
  split
  · simp [Lg.item, Lg.add]
  · cases h : aget G.keys key with
    | none => rfl
    | some p =>
      simp only [Option.map_some, Option.some.injEq]
      have := ho.keys key p h
      unfold Lg.plOk at this
      unfold Lg.item
      split
      · rename_i hop
        rw [if_pos hop] at this
        obtain ⟨_, y, hy, _⟩ := this
        have hlt := (List.getElem?_eq_some_iff.1 hy).1
        show (G.opn ++ [x]).getD p.ix Item.zero = _
        rw [List.getD_eq_getElem?_getD, List.getD_eq_getElem?_getD, List.getElem?_append_left hlt]
      · rfl
theorem Lg.view_key {G : Lg} (ho : G.Ok) {key : ByteArray} {x : Item} (h : G.view key = some x) : x.key = key := by
  unfold Lg.view at h
  cases hp : aget G.keys key with
  | none => rw [hp] at h; cases h
  | some p =>
    rw [hp] at h
    simp only [Option.map_some, Option.some.injEq] at h
    have := ho.keys key p hp
    unfold Lg.plOk at this
    unfold Lg.item at h
    split at this
    · rename_i hop
      rw [if_pos hop] at h
      obtain ⟨_, y, hy, hk⟩ := this
      rw [List.getD_eq_getElem?_getD, hy] at h
      rw [← h]; exact hk
    · rename_i hop
      rw [if_neg hop] at h
      obtain ⟨S, y, hS, hy, hk⟩ := this
      unfold rl at h
      rw [List.getD_eq_getElem?_getD, List.getD_eq_getElem?_getD, hS] at h
      simp only [Option.getD_some] at h
      rw [hy] at h
      rw [← h]; exact hk
theorem Lg.view_shut (G : Lg) (ho : G.Ok) (hn : (akeys G.keys).Nodup) (key : ByteArray) : G.shut.view key = if hasKey key G.given.1 = true then none else G.view key := by
  have hi : G.next < G.regs.length := Nat.mod_lt _ ho.pos
  have hg := ho.gave hn hi
  have hv : ∀ key p, aget G.given.2 key = some p → p.op = true → p.rg = 0 ∧ ∃ x, G.opn[p.ix]? = some x ∧ x.key = key := by
    intro key p hp hop
    have := hg.keys key p hp
    unfold Lg.plOk at this
    rw [if_pos hop] at this
    exact this
  have hget : aget G.given.2 key = if hasKey key G.given.1 = true then none else aget G.keys key := by
    unfold Lg.given
    rw [← giveT_all]
    exact giveT_get _ _ _ hn _ (Nat.le_refl _) key
  unfold Lg.view
  show (aget (moveK G.next G.given.2 G.opn) key).map G.shut.item = _
  rw [← moveT_all, moveT_get _ _ _ hv _ (Nat.le_refl _)]
  by_cases hm : hasKey key G.given.1 = true
  · rw [hget, if_pos hm, if_pos hm]; rfl
  · rw [if_neg hm] at hget ⊢
    rw [hget]
    cases hp : aget G.keys key with
    | none => rfl
    | some p =>
      simp only [Option.map_some, Option.some.injEq]
      have hgp : aget G.given.2 key = some p := by rw [hget, hp]
      have hok := hg.keys key p hgp
      unfold Lg.plOk at hok
      by_cases hop : p.op = true
      · rw [if_pos hop] at hok
        obtain ⟨_, x, hx, _⟩ := hok
        have hlt : p.ix < G.opn.length := (List.getElem?_eq_some_iff.1 hx).1
        have e : moved G.next G.opn.length p = ⟨false, G.next, p.ix⟩ := by unfold moved; rw [if_pos ⟨hop, hlt⟩]
        rw [e]
        unfold Lg.item
        rw [if_pos hop]
        simp only [Bool.false_eq_true, if_false]
        unfold rl Lg.shut
        simp only
        rw [List.getD_eq_getElem?_getD (l := (G.regs.set G.next Sealed.no).set G.next _), List.getElem?_set, if_pos rfl, if_pos (by simpa using hi)]
        rfl
      · have e : moved G.next G.opn.length p = p := by unfold moved; rw [if_neg (fun hh => hop hh.1)]
        rw [e]
        rw [if_neg hop] at hok
        obtain ⟨S, x, hS, hx, _⟩ := hok
        have hne : G.next ≠ p.rg := by
          intro e
          simp only at hS
          rw [List.getElem?_set, if_pos e, if_pos hi] at hS
          injection hS with hS
          subst hS
          simp [Sealed.no] at hx
        unfold Lg.item
        rw [if_neg hop, if_neg hop]
        unfold rl Lg.shut
        simp only
        rw [List.getD_eq_getElem?_getD (l := (G.regs.set G.next Sealed.no).set G.next _), List.getElem?_set, if_neg hne, List.getElem?_set, if_neg hne, ← List.getD_eq_getElem?_getD]

/-! how many items a log tells -/
def regPl (G : Lg) (i : Nat) : List (Item × Pl) := (rl G.regs i).zipIdx.map fun p => (p.1, ⟨false, i, p.2⟩)
def opnPl (G : Lg) : List (Item × Pl) := G.opn.zipIdx.map fun p => (p.1, ⟨true, 0, p.2⟩)
def allPl (G : Lg) : List (Item × Pl) := (byNum G.regs).flatMap (regPl G) ++ opnPl G
def plGood (G : Lg) (q : Item × Pl) : Bool := decide (aget G.keys q.1.key = some q.2)
theorem pick_pl (ks : Keys) (pl : Nat → Pl) (l : List Item) : pick ks pl l = ((l.zipIdx.map fun p => (p.1, pl p.2)).filter fun q => decide (aget ks q.1.key = some q.2)).map (·.1) := by
  unfold pick
  rw [List.filter_map, List.map_map]
  rfl
theorem items_pl (G : Lg) : G.items = ((allPl G).filter (plGood G)).map (·.1) := by
  unfold Lg.items allPl
  rw [List.filter_append, List.map_append, pick_pl G.keys _ G.opn]
  congr 1
  induction byNum G.regs with
  | nil => rfl
  | cons i r ih =>
    rw [List.flatMap_cons, List.flatMap_cons, List.filter_append, List.map_append, ih, pick_pl]
    rfl
theorem nodup_of_map {α β : Type} (f : α → β) {l : List α} (h : (l.map f).Nodup) : l.Nodup := by
  have h1 := List.pairwise_map.1 h
  exact h1.imp (fun hab e => hab (by rw [e]))
theorem zip_nodup (l : List Item) : (l.zipIdx.map (·.2)).Nodup := by
  rw [List.zipIdx_map_snd]
  exact List.nodup_range'
theorem pl_nodup (l : List Item) (pl : Nat → Pl) (hp : ∀ a b, pl a = pl b → a = b) : ((l.zipIdx.map fun p => (p.1, pl p.2)).map (·.2)).Nodup := by
  have h := List.pairwise_map.1 (zip_nodup l)
  rw [List.map_map]
  exact List.pairwise_map.2 (h.imp (fun hab e => hab (hp _ _ e)))
theorem fm_nodup (G : Lg) : ∀ L : List Nat, L.Nodup → ((L.flatMap (regPl G)).map (·.2)).Nodup := by
  intro L
  induction L with
  | nil => intro _; simp
  | cons i r ih =>
    intro hn
    rw [List.nodup_cons] at hn
    rw [List.flatMap_cons, List.map_append, List.nodup_append]
    refine ⟨pl_nodup _ (fun k => ⟨false, i, k⟩) (fun a b e => by injection e), ih hn.2, fun a ha b hb => ?_⟩
    rintro rfl
    obtain ⟨q, hq, e1⟩ := List.mem_map.1 ha
    obtain ⟨p, _, e2⟩ := List.mem_map.1 hq
    obtain ⟨q', hq', e3⟩ := List.mem_map.1 hb
    obtain ⟨j, hj, hq2⟩ := List.mem_flatMap.1 hq'
    obtain ⟨p', _, e4⟩ := List.mem_map.1 hq2
    have h1 : a.rg = i := by rw [← e1, ← e2]
    have h2 : a.rg = j := by rw [← e3, ← e4]
    exact hn.1 (by rw [← h1, h2]; exact hj)
theorem insR_nodup (f : Nat → Nat) (x : Nat) (l : List Nat) (hn : l.Nodup) (hx : x ∉ l) : (insR f x l).Nodup := by
  induction l with
  | nil => simp [insR]
  | cons y r ih =>
    rw [List.nodup_cons] at hn
    rw [insR]
    split
    · rw [List.nodup_cons]
      refine ⟨fun h => ?_, ih hn.2 (fun h => hx (List.mem_cons_of_mem _ h))⟩
      rcases (insR_mem f x y r).1 h with e | e
      · exact hx (by rw [e]; exact List.mem_cons_self)
      · exact hn.1 e
    · rw [List.nodup_cons]
      exact ⟨hx, List.nodup_cons.2 hn⟩
theorem insL_nodup (f : Nat → Nat) (l : List Nat) (hn : l.Nodup) : (insL f l).Nodup := by
  rw [← List.reverse_reverse l] at hn ⊢
  generalize l.reverse = m at hn ⊢
  induction m with
  | nil => simp [insL]
  | cons x r ih =>
    rw [List.reverse_cons, List.nodup_append] at hn
    rw [List.reverse_cons, insL_snoc]
    refine insR_nodup f x _ (ih hn.1) (fun h => ?_)
    exact hn.2.2 x ((insL_mem f x _).1 h) x (by simp) rfl
theorem byNum_nodup (regs : List Sealed) : (byNum regs).Nodup := by
  unfold byNum sortR
  have h := insL_nodup (rnum regs) (counts regs) ((List.filter_sublist).nodup List.nodup_range)
  unfold insL at h
  exact List.pairwise_reverse.2 (h.imp (fun hab => Ne.symm hab))
theorem byNum_mem {regs : List Sealed} {i : Nat} (hi : i < regs.length) (h0 : 0 < rnum regs i) : i ∈ byNum regs := by
  unfold byNum sortR
  rw [List.mem_reverse]
  exact (insL_mem (rnum regs) i (counts regs)).2 (List.mem_filter.2 ⟨List.mem_range.2 hi, by simpa using h0⟩)
theorem items_len {G : Lg} (ho : G.Ok) (hn : (akeys G.keys).Nodup) (hz : ∀ (i : Nat) (S : Sealed), G.regs[i]? = some S → S.l ≠ [] → 0 < S.num) : G.items.length = G.keys.length := by
  have hF : G.items.length = (((allPl G).filter (plGood G)).map fun q => (q.1.key, q.2)).length := by rw [items_pl]; simp
  have hnF : (((allPl G).filter (plGood G)).map fun q => (q.1.key, q.2)).Nodup := by
    refine nodup_of_map (·.2) ?_
    rw [List.map_map]
    have h1 : ((allPl G).map (·.2)).Nodup := by
      unfold allPl
      rw [List.map_append, List.nodup_append]
      refine ⟨fm_nodup G _ (byNum_nodup _), pl_nodup _ (fun k => ⟨true, 0, k⟩) (fun a b e => by injection e), fun a ha b hb => ?_⟩
      rintro rfl
      obtain ⟨q, hq, e1⟩ := List.mem_map.1 ha
      obtain ⟨j, _, hq2⟩ := List.mem_flatMap.1 hq
      obtain ⟨p, _, e2⟩ := List.mem_map.1 hq2
      obtain ⟨q', hq', e3⟩ := List.mem_map.1 hb
      obtain ⟨p', _, e4⟩ := List.mem_map.1 hq'
      have h1 : a.op = false := by rw [← e1, ← e2]
      have h2 : a.op = true := by rw [← e3, ← e4]
      rw [h1] at h2; cases h2
    exact ((List.filter_sublist).map _).nodup h1
  have hnK : G.keys.Nodup := nodup_of_map (fun p : ByteArray × Pl => p.1) (by unfold akeys at hn; exact hn)
  rw [hF]
  refine Nat.le_antisymm (hnF.length_le_of_subset ?_) (hnK.length_le_of_subset ?_)
  · intro q hq
    obtain ⟨p, hp, rfl⟩ := List.mem_map.1 hq
    have hg := (List.mem_filter.1 hp).2
    unfold plGood at hg
    exact aget_mem (by simpa using hg)
  · rintro ⟨key, p⟩ hkp
    have hp := aget_of_mem hn hkp
    have hok := ho.keys key p hp
    unfold Lg.plOk at hok
    obtain ⟨op, rg, ix⟩ := p
    cases op with
    | true =>
      simp only [if_true] at hok
      obtain ⟨rfl, x, hx, rfl⟩ := hok
      refine List.mem_map.2 ⟨(x, ⟨true, 0, ix⟩), List.mem_filter.2 ⟨List.mem_append_right _ (List.mem_map.2 ⟨(x, ix), List.mem_of_getElem? (zip_get hx), rfl⟩), ?_⟩, rfl⟩
      unfold plGood
      simpa using hp
    | false =>
      simp only [Bool.false_eq_true, if_false] at hok
      obtain ⟨S, x, hS, hx, rfl⟩ := hok
      have hrl : rl G.regs rg = S.l := by unfold rl; rw [List.getD_eq_getElem?_getD, hS]; rfl
      have hrn : rnum G.regs rg = S.num := by unfold rnum; rw [List.getD_eq_getElem?_getD, hS]; rfl
      have h0 := hz rg S hS (fun e => by rw [e] at hx; cases hx)
      refine List.mem_map.2 ⟨(x, ⟨false, rg, ix⟩), List.mem_filter.2 ⟨List.mem_append_left _ (List.mem_flatMap.2 ⟨rg, byNum_mem (List.getElem?_eq_some_iff.1 hS).1 (by rw [hrn]; exact h0), ?_⟩), ?_⟩, rfl⟩
      · unfold regPl
        rw [hrl]
        exact List.mem_map.2 ⟨(x, ix), List.mem_of_getElem? (zip_get hx), rfl⟩
      · unfold plGood
        simpa using hp
end Go.Proofs.Ytcmobcbecbajiaa

/- What RegionNewest keeps beside a log, in plain Lean. -/
namespace Go.Proofs.Ytcmobcbecbajiaa
open Go.RowKit
set_option linter.unusedSimpArgs false
set_option linter.unusedVariables false

def noKey (l : List Item) (key : ByteArray) : List Item := l.filter fun x => !decide (x.key = key)
def noKeys (l out : List Item) : List Item := out.foldl (fun l y => noKey l y.key) l
def nowPut (now out : List Item) (x : Item) : List Item := noKey (noKeys now out) x.key ++ [x]
def findK (l : List Item) (key : ByteArray) : Option Item := l.find? fun x => decide (x.key = key)
theorem findK_noKey (l : List Item) (k key : ByteArray) : findK (noKey l k) key = if k = key then none else findK l key := by
  induction l with
  | nil => simp [findK, noKey]
  | cons x r ih =>
    unfold findK noKey at ih ⊢
    rw [List.filter_cons]
    by_cases hx : x.key = k
    · simp only [hx, decide_true, Bool.not_true, Bool.false_eq_true, if_false, ih]
      by_cases hk : k = key
      · simp [hk]
      · rw [if_neg hk, if_neg hk, List.find?_cons]
        simp [hx, hk]
    · simp only [hx, decide_false, Bool.not_false, if_true, List.find?_cons, ih]
      by_cases hk : k = key
      · subst hk; simp [hx]
      · rw [if_neg hk, if_neg hk]
theorem findK_noKeys (out : List Item) : ∀ (l : List Item) (key : ByteArray), findK (noKeys l out) key = if hasKey key out = true then none else findK l key := by
  induction out with
  | nil => intro l key; simp [noKeys, hasKey]
  | cons y r ih =>
    intro l key
    have e : noKeys l (y :: r) = noKeys (noKey l y.key) r := rfl
    rw [e, ih, findK_noKey]
    unfold hasKey
    rw [List.any_cons]
    by_cases h1 : y.key = key
    · simp [h1]
    · simp [h1]
theorem findK_nowPut (now out : List Item) (x : Item) (key : ByteArray) : findK (nowPut now out x) key = if x.key = key then some x else if hasKey key out = true then none else findK now key := by
  have h1 : findK (nowPut now out x) key = (findK (noKey (noKeys now out) x.key) key).or (if x.key = key then some x else none) := by
    unfold findK nowPut
    rw [List.find?_append]
    congr 1
    simp [List.find?_cons]
    split <;> simp_all
  rw [h1, findK_noKey, findK_noKeys]
  by_cases h : x.key = key
  · simp [h]
  · simp [h]
theorem keysOf_noKey (l : List Item) (k : ByteArray) (hn : (keysOf l).Nodup) : (keysOf (noKey l k)).Nodup ∧ k ∉ keysOf (noKey l k) := by
  refine ⟨((List.filter_sublist).map _).nodup hn, fun h => ?_⟩
  obtain ⟨x, hx, e⟩ := List.mem_map.1 h
  have := (List.mem_filter.1 hx).2
  simp [e] at this
theorem keysOf_noKeys (out : List Item) : ∀ l : List Item, (keysOf l).Nodup → (keysOf (noKeys l out)).Nodup := by
  induction out with
  | nil => intro l h; exact h
  | cons y r ih => intro l h; exact ih _ (keysOf_noKey l y.key h).1
theorem nowPut_nodup (now out : List Item) (x : Item) (hn : (keysOf now).Nodup) : (keysOf (nowPut now out x)).Nodup := by
  have h := keysOf_noKey (noKeys now out) x.key (keysOf_noKeys out now hn)
  unfold nowPut keysOf at *
  rw [List.map_append, List.nodup_append]
  refine ⟨h.1, by simp, fun a ha b hb => ?_⟩
  simp only [List.map_cons, List.map_nil, List.mem_singleton] at hb
  rw [hb]
  rintro rfl
  exact h.2 ha

/-- the log and the list beside it -/
structure Newest (G : Lg) (D : Dev) (now : List Item) (i : Nat) : Prop where
  live : Live G D
  num : G.number ≤ i
  zero : ∀ (j : Nat) (S : Sealed), G.regs[j]? = some S → S.l ≠ [] → 0 < S.num
  nd : (keysOf now).Nodup
  same : ∀ key, G.view key = findK now key
  len : now.length ≤ i
theorem zero_shut {G : Lg} (hz : ∀ (j : Nat) (S : Sealed), G.regs[j]? = some S → S.l ≠ [] → 0 < S.num) : ∀ (j : Nat) (S : Sealed), G.shut.regs[j]? = some S → S.l ≠ [] → 0 < S.num := by
  intro j S hS hl
  unfold Lg.shut at hS
  simp only at hS
  rw [List.getElem?_set] at hS
  split at hS
  · split at hS
    · injection hS with hS; subst hS; simp
    · cases hS
  · rw [List.getElem?_set] at hS
    split at hS
    · split at hS
      · injection hS with hS; subst hS; exact absurd rfl hl
      · cases hS
    · exact hz j S hS hl
theorem nowPut_len (now out : List Item) (x : Item) : (nowPut now out x).length ≤ now.length + 1 := by
  have h1 : ∀ (l : List Item) k, (noKey l k).length ≤ l.length := fun l k => List.length_filter_le _ _
  have h2 : ∀ (out l : List Item), (noKeys l out).length ≤ l.length := by
    intro out
    induction out with
    | nil => intro l; exact Nat.le_refl _
    | cons y r ih => intro l; exact Nat.le_trans (ih _) (h1 l _)
  unfold nowPut
  rw [List.length_append]
  have := h1 (noKeys now out) x.key
  have := h2 out now
  simp only [List.length_cons, List.length_nil]
  omega
theorem Newest.put {G : Lg} {D : Dev} {now : List Item} {i : Nat} (h : Newest G D now i) (hi : i < 1000) {x : Item} (hf : Lg.fits x = true) : (G.put D x).e = 0 ∧ Newest (G.put D x).G (G.put D x).D (nowPut now (G.put D x).lost x) (i + 1) := by
  have hn : G.number + 1 < 18446744073709551616 := by have := h.num; omega
  have hlp := h.live.put hn x
  have he : (G.put D x).e = 0 := hlp.2.1.2 hf
  have hl := hlp.1
  refine ⟨he, ?_⟩
  have hp : G.put D x = if isum G.opn + x.size ≤ 1472 then ⟨G.add x, D, [], 0⟩ else if (G.sl D).e = 0 then ⟨(G.sl D).G.add x, (G.sl D).D, (G.sl D).lost, 0⟩ else G.sl D := by unfold Lg.put; rw [if_pos hf]
  by_cases hs : isum G.opn + x.size ≤ 1472
  · rw [if_pos hs] at hp
    rw [hp] at hl ⊢
    refine ⟨hl, Nat.le_succ_of_le h.num, h.zero, nowPut_nodup _ _ _ h.nd, fun key => ?_, Nat.le_trans (nowPut_len _ _ _) (by have := h.len; omega)⟩
    show (G.add x).view key = _
    rw [Lg.view_add _ h.live.ok, findK_nowPut, h.same]
    simp [hasKey]
  · rw [if_neg hs] at hp
    have hsl := h.live.sl hn
    have hne : G.opn ≠ [] := fun e => hs (by rw [e]; have := (fits_good hf).2; simpa [isum] using this)
    have e2 := hsl.2.2.2 hne
    rw [if_pos hsl.1, e2] at hp
    have hls := hsl.2.1
    rw [e2] at hls
    rw [hp] at hl ⊢
    refine ⟨hl, by show G.number + 1 ≤ i + 1; have := h.num; omega, zero_shut h.zero, nowPut_nodup _ _ _ h.nd, fun key => ?_, Nat.le_trans (nowPut_len _ _ _) (by have := h.len; omega)⟩
    show (G.shut.add x).view key = _
    rw [Lg.view_add _ hls.ok, findK_nowPut, Lg.view_shut G h.live.ok h.live.nd, h.same]
theorem Newest.bad {G : Lg} {D : Dev} {now : List Item} {i : Nat} (h : Newest G D now i) (hi : i < 1000) {x : Item} (hf : Lg.fits x = false) : G.put D x = ⟨G, D, [], 1⟩ ∧ Newest G D now (i + 1) :=
  ⟨(h.live.put (by have := h.num; omega) x).2.2.2 hf, { h with num := Nat.le_succ_of_le h.num, len := Nat.le_succ_of_le h.len }⟩
theorem findK_mem {l : List Item} (hn : (keysOf l).Nodup) {x : Item} (hx : x ∈ l) : findK l x.key = some x := by
  induction l with
  | nil => cases hx
  | cons y r ih =>
    unfold keysOf at hn
    rw [List.map_cons, List.nodup_cons] at hn
    unfold findK at ih ⊢
    rw [List.find?_cons]
    rcases List.mem_cons.1 hx with rfl | hx
    · simp
    · have : ¬ y.key = x.key := fun e => hn.1 (by rw [e]; exact List.mem_map_of_mem hx)
      simp only [this, decide_false]
      exact ih hn.2 hx
theorem findK_some {l : List Item} {key : ByteArray} {x : Item} (h : findK l key = some x) : x ∈ l ∧ x.key = key := by
  unfold findK at h
  exact ⟨List.mem_of_find?_eq_some h, by simpa using List.find?_some h⟩
/-- what is told at the end -/
theorem Newest.told {G : Lg} {D : Dev} {now : List Item} {i : Nat} (h : Newest G D now i) : (∀ x ∈ now, G.get x.key = x ∧ G.getE x.key = 0) ∧ G.items.length = now.length := by
  constructor
  · intro x hx
    have hv : G.view x.key = some x := by rw [h.same]; exact findK_mem h.nd hx
    have := G.get_view x.key
    rw [hv] at this
    simpa using this
  · rw [items_len h.live.ok h.live.nd h.zero]
    have e1 : G.keys.length = (akeys G.keys).length := by simp [akeys]
    have e2 : now.length = (keysOf now).length := by simp [keysOf]
    rw [e1, e2]
    refine Nat.le_antisymm (h.live.nd.length_le_of_subset ?_) (h.nd.length_le_of_subset ?_)
    · intro key hk
      have : aget G.keys key ≠ none := fun e => (aget_none.1 e) hk
      cases hg : aget G.keys key with
      | none => exact absurd hg this
      | some p =>
        have hv : G.view key = some (G.item p) := by unfold Lg.view; rw [hg]; rfl
        rw [h.same] at hv
        obtain ⟨h1, h2⟩ := findK_some hv
        exact List.mem_map.2 ⟨_, h1, h2⟩
    · intro key hk
      obtain ⟨x, hx, rfl⟩ := List.mem_map.1 hk
      have hv := h.same x.key
      rw [findK_mem h.nd hx] at hv
      unfold Lg.view at hv
      cases hg : aget G.keys x.key with
      | none => rw [hg] at hv; cases hv
      | some p =>
        have := aget_none (l := G.keys) (k := x.key)
        exact Classical.byContradiction (fun hno => by rw [this.2 hno] at hg; cases hg)
theorem newest_new (n r : Nat) (h1 : 1 ≤ r) (h2 : r ≤ 64) (h3 : 4 * r ≤ n) (h4 : n ≤ 4096) : Newest (Lg.opened (Dev.new n) 0 r) (Dev.new n) [] 0 := by
  have hl := live_new n r h1 h2 h3 h4
  rw [opened_new] at hl ⊢
  refine ⟨hl, Nat.le_refl _, fun j S hS hn => ?_, by simp [keysOf], fun key => rfl, Nat.le_refl _⟩
  simp only at hS
  rw [List.getElem?_replicate] at hS
  split at hS
  · injection hS with hS; subst hS; exact absurd rfl hn
  · cases hS
end Go.Proofs.Ytcmobcbecbajiaa

namespace Go.Proofs.Ytcmobcbecbajiaa
open Go.RowKit
set_option linter.unusedSimpArgs false
set_option linter.unusedVariables false

theorem strj_eq (a b : ByteArray) : (a.toList == b.toList) = decide (a = b) := by
  rw [ByteArray.toList_eq, ByteArray.toList_eq, Bool.eq_iff_iff]
  simp only [beq_iff_eq, decide_eq_true_eq]
  exact ⟨fun h => ByteArray.ext (Array.toList_inj.1 h), fun h => by rw [h]⟩
theorem noKey_take {l : List Item} {k : Nat} {x : Item} (hx : l[k]? = some x) (key : ByteArray) : noKey (l.take (k + 1)) key = noKey (l.take k) key ++ (if x.key = key then [] else [x]) := by
  unfold noKey
  rw [List.take_add_one, hx, Option.toList, List.filter_append]
  by_cases h : x.key = key <;> simp [h]

set_option maxRecDepth 100000 in
theorem without9_calls (A : Option Addr) (c : Nat) (l : List Item) (key : ByteArray) (w : World) (hr : Rd w tItem A (l.length * 5) (its l)) (hn : l.length ≤ 1000000) :
    Calls Try.prog 31 #[.slice A l.length c, .string key] w fun e w' => ∃ v, e = .returned v ∧ w'.ownsRow w.heap.size tItem 5 v (noKey l key).length (its (noKey l key)) ∧ Chg No w w' := by
  have HR := Lib.hid hr
  clear hr
  go_enter Try.func31, Try.ntmps31
  go_wp2
  go_loopg [5, 6] l.length (fun g v5 v6 wr => ∃ k : Nat, v6 = .int .i64 k ∧ k ≤ l.length ∧ l.length - k = g ∧ Hid (Chg No w wr ∧ wr.ownsRow w.heap.size tItem 5 v5 (noKey (l.take k) key).length (its (noKey (l.take k) key))))
  case atStart => exact ⟨0, rfl, by omega, by omega, ⟨Chg.refl _ _, World.ownsRow_nil _ _ _ _⟩⟩
  case round =>
    obtain ⟨k, rfl, hk, hgn, H⟩ := hrel
    subst hgn
    by_cases h0 : k < l.length
    · obtain ⟨x, hx⟩ : ∃ x, l[k]? = some x := ⟨_, List.getElem?_eq_getElem h0⟩
      obtain ⟨g, off, rfl, hg, hc⟩ := (HR.out.chg H.out.1 (fun _ _ _ _ h => h)).at_ (j := k * 5) (by omega)
      have c0 := hc (k * 5 + 0) _ (its_get l k 0 x hx (by omega))
      have c1 := hc (k * 5 + 1) _ (its_get l k 1 x hx (by omega))
      have c2 := hc (k * 5 + 2) _ (its_get l k 2 x hx (by omega))
      have c3 := hc (k * 5 + 3) _ (its_get l k 3 x hx (by omega))
      have c4 := hc (k * 5 + 4) _ (its_get l k 4 x hx (by omega))
      simp only [itc, List.getElem_cons_zero, List.getElem_cons_succ, ← Nat.add_assoc, Nat.add_zero] at c0 c1 c2 c3 c4
      have HS := Lib.hid (noKey_take hx key)
      have hlen : (noKey (l.take k) key).length ≤ k := by
        refine Nat.le_trans (List.length_filter_le _ _) ?_
        rw [List.length_take]; omega
      have hb : w.heap.size ≤ wr.heap.size := H.out.1.size
      have hse := strj_eq x.key key
      clear hx hc
      by_cases he : x.key = key
      · rw [decide_eq_true he] at hse
        rw [if_pos he, List.append_nil] at HS
        clear he
        have hbb : (x.key.toList != key.toList) = false := by simp only [bne, hse]; rfl
        go_wp2
        go_roundg (l.length - (k + 1))
        case measure => omega
        case rel => exact ⟨k + 1, rfl, by omega, rfl, H.out.1, by rw [HS.out]; exact H.out.2⟩
      · rw [decide_eq_false he] at hse
        rw [if_neg he] at HS
        have HO := Lib.hid H.out.2
        clear he
        have hbb : (x.key.toList != key.toList) = true := by simp only [bne, hse]; rfl
        go_wp2_with (first
          | (at_builtin; go_loud (refine wpList_app _ rfl (.tmp 20) (.tmp 25) 22 rfl tItem Try.underlying22 ti_item rfl (by omega) w.heap.size _ _ _ rfl (HO.out.alloc _) tItem _ 1 1 (itc x) rfl (rd_item _ x) (itc_one_cell x) (by simp only [maxLen]; omega) (by omega) (by simp; omega) ?_); intro v2 w2 ho2 hg2 hb2; have HO2 := Lib.hid ho2; have HG2 := Lib.hid hg2; clear ho2 hg2 hb2))
        go_roundg (l.length - (k + 1))
        case measure => omega
        case rel =>
          refine ⟨k + 1, rfl, by omega, rfl, (H.out.1.alloc _).grown HG2.out (fun k' hk' => .inr (own_new HO.out k' hk')), ?_⟩
          rw [HS.out, List.length_append, its_append, its_one]
          exact HO2.out
    · have e3 : k = l.length := by omega
      subst e3
      rw [List.take_length] at H
      go_wp2
      go_ret
      exact ⟨_, rfl, H.out.2, H.out.1⟩
end Go.Proofs.Ytcmobcbecbajiaa
