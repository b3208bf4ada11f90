/- Packed texts: RegPl, RegG, RegA. -/
import Derived.Test.YtplpbbdakihnfaaGreatPk05
import Derived.Test.YtplpbbdakihnfaaGreatPk06
import Derived.Test.YtplpbbdakihnfaaGreatPk03

/- The log in regions: plain laws of its keys. -/
section
namespace Go.Proofs.YtplpbbdakihnfaaGreat
open Go.RowKit
set_option linter.unusedSimpArgs false
set_option linter.unusedVariables false

theorem zip_get {l : List Item} {k : Nat} {x : Item} (h : l[k]? = some x) : l.zipIdx[k]? = some (x, k) := by
  rw [List.getElem?_zipIdx, h]; simp
theorem foldl_take {α β : Type} (f : β → α → β) (b : β) (l : List α) (k : Nat) (x : α) (h : l[k]? = some x) : (l.take (k + 1)).foldl f b = f ((l.take k).foldl f b) x := by
  rw [List.take_add_one, h, Option.toList, List.foldl_append]; rfl

/-! giving a region away -/
def giveS (i : Nat) (s : List Item × Keys) (p : Item × Nat) : List Item × Keys := if aget s.2 p.1.key = some ⟨false, i, p.2⟩ then (s.1 ++ [p.1], adel s.2 p.1.key) else s
def giveT (i : Nat) (ks : Keys) (l : List Item) (k : Nat) : List Item × Keys := (l.zipIdx.take k).foldl (giveS i) ([], ks)
theorem giveT_zero (i : Nat) (ks : Keys) (l : List Item) : giveT i ks l 0 = ([], ks) := rfl
theorem giveT_succ (i : Nat) (ks : Keys) {l : List Item} {k : Nat} {x : Item} (h : l[k]? = some x) : giveT i ks l (k + 1) = giveS i (giveT i ks l k) (x, k) := foldl_take _ _ _ _ _ (zip_get h)
theorem giveT_all (i : Nat) (ks : Keys) (l : List Item) : giveT i ks l l.length = giveK i ks l := by
  unfold giveT
  rw [List.take_of_length_le (by simp)]
  rfl
theorem giveT_len (i : Nat) (ks : Keys) (l : List Item) (k : Nat) (hk : k ≤ l.length) : (giveT i ks l k).1.length ≤ k := by
  induction k with
  | zero => simp [giveT_zero]
  | succ k ih =>
    rw [giveT_succ i ks (List.getElem?_eq_getElem (by omega : k < l.length))]
    have := ih (by omega)
    unfold giveS
    split
    · simp; omega
    · omega
theorem giveT_nodup (i : Nat) (ks : Keys) (l : List Item) (hn : (akeys ks).Nodup) (k : Nat) (hk : k ≤ l.length) : (akeys (giveT i ks l k).2).Nodup := by
  induction k with
  | zero => exact hn
  | succ k ih =>
    rw [giveT_succ i ks (List.getElem?_eq_getElem (by omega : k < l.length))]
    unfold giveS
    split
    · exact nodup_adel _ _ (ih (by omega))
    · exact ih (by omega)
/-- keys are only let go -/
theorem giveT_sub (i : Nat) (ks : Keys) (l : List Item) (hn : (akeys ks).Nodup) (k : Nat) (hk : k ≤ l.length) : ∀ key p, aget (giveT i ks l k).2 key = some p → aget ks key = some p := by
  induction k with
  | zero => intro key p h; exact h
  | succ k ih =>
    intro key p h
    rw [giveT_succ i ks (List.getElem?_eq_getElem (by omega : k < l.length))] at h
    unfold giveS at h
    split at h
    · simp only at h
      rw [aget_adel _ (giveT_nodup i ks l hn k (by omega))] at h
      split at h
      · cases h
      · exact ih (by omega) key p h
    · exact ih (by omega) key p h
/-- no key stands in the part that was gone through -/
theorem giveT_none (i : Nat) (ks : Keys) (l : List Item) (hn : (akeys ks).Nodup) (hv : ∀ key k, aget ks key = some ⟨false, i, k⟩ → ∃ x, l[k]? = some x ∧ x.key = key) (k : Nat) (hk : k ≤ l.length) :
    ∀ key j, aget (giveT i ks l k).2 key = some ⟨false, i, j⟩ → k ≤ j := by
  induction k with
  | zero => intro key j _; exact Nat.zero_le _
  | succ k ih =>
    intro key j h
    have hlt : k < l.length := by omega
    have hsub := giveT_sub i ks l hn (k + 1) hk key _ h
    obtain ⟨y, hy, hyk⟩ := hv key j hsub
    rw [giveT_succ i ks (List.getElem?_eq_getElem hlt)] at h
    unfold giveS at h
    have hne : j ≠ k := by
      rintro rfl
      have hxy : l[j] = y := by rw [List.getElem?_eq_getElem hlt] at hy; exact Option.some.inj hy
      simp only [hxy, hyk] at h
      split at h
      · simp only at h
        rw [aget_adel _ (giveT_nodup i ks l hn j (by omega)), if_pos rfl] at h
        cases h
      · rename_i hno
        exact hno h
    have : aget (giveT i ks l k).2 key = some ⟨false, i, j⟩ := by
      split at h
      · simp only at h
        rw [aget_adel _ (giveT_nodup i ks l hn k (by omega))] at h
        split at h
        · cases h
        · exact h
      · exact h
    have := ih (by omega) key j this
    omega

/-! the sealed one's keys are moved -/
def moveS (i : Nat) (ks : Keys) (p : Item × Nat) : Keys := if aget ks p.1.key = some ⟨true, 0, p.2⟩ then aset ks p.1.key ⟨false, i, p.2⟩ else ks
def moveT (i : Nat) (ks : Keys) (l : List Item) (k : Nat) : Keys := (l.zipIdx.take k).foldl (moveS i) ks
theorem moveT_zero (i : Nat) (ks : Keys) (l : List Item) : moveT i ks l 0 = ks := rfl
theorem moveT_succ (i : Nat) (ks : Keys) {l : List Item} {k : Nat} {x : Item} (h : l[k]? = some x) : moveT i ks l (k + 1) = moveS i (moveT i ks l k) (x, k) := foldl_take _ _ _ _ _ (zip_get h)
theorem moveT_all (i : Nat) (ks : Keys) (l : List Item) : moveT i ks l l.length = moveK i ks l := by
  unfold moveT
  rw [List.take_of_length_le (by simp)]
  rfl
theorem moveT_nodup (i : Nat) (ks : Keys) (l : List Item) (hn : (akeys ks).Nodup) (k : Nat) (hk : k ≤ l.length) : (akeys (moveT i ks l k)).Nodup := by
  induction k with
  | zero => exact hn
  | succ k ih =>
    rw [moveT_succ i ks (List.getElem?_eq_getElem (by omega : k < l.length))]
    unfold moveS
    split
    · exact nodup_aset _ _ _ (ih (by omega))
    · exact ih (by omega)
/-- what a key has then -/
def moved (i : Nat) (k : Nat) (p : Pl) : Pl := if p.op = true ∧ p.ix < k then ⟨false, i, p.ix⟩ else p
theorem moveT_get (i : Nat) (ks : Keys) (l : List Item) (hv : ∀ key p, aget ks key = some p → p.op = true → p.rg = 0 ∧ ∃ x, l[p.ix]? = some x ∧ x.key = key) (k : Nat) (hk : k ≤ l.length) (key : ByteArray) :
    aget (moveT i ks l k) key = (aget ks key).map (moved i k) := by
  induction k with
  | zero =>
    rw [moveT_zero]
    cases h : aget ks key with
    | none => rfl
    | some p => simp [moved]
  | succ k ih =>
    have hlt : k < l.length := by omega
    have ih := ih (by omega)
    have hx : l[k]? = some l[k] := List.getElem?_eq_getElem hlt
    rw [moveT_succ i ks hx]
    generalize hxe : l[k] = x at hx
    unfold moveS
    by_cases hkey : x.key = key
    · subst hkey
      simp only
      rw [ih]
      cases h : aget ks x.key with
      | none => simp [ih, h]
      | some p =>
        simp only [Option.map_some, Option.some.injEq]
        by_cases hp : p.op = true ∧ p.ix = k
        · have hv1 := hv _ _ h hp.1
          have e1 : moved i k p = ⟨true, 0, k⟩ := by
            unfold moved
            rw [if_neg (by omega)]
            obtain ⟨op, rg, ix⟩ := p
            simp only at hp hv1
            rw [hp.1, hp.2, hv1.1]
          rw [if_pos e1, aget_aset, if_pos rfl]
          unfold moved
          rw [if_pos ⟨hp.1, by omega⟩, hp.2]
        · have e1 : ¬ moved i k p = ⟨true, 0, k⟩ := by
            intro e
            unfold moved at e
            split at e
            · cases e
            · subst e; exact hp ⟨rfl, rfl⟩
          rw [if_neg e1, ih, h]
          simp only [Option.map_some, Option.some.injEq]
          unfold moved
          by_cases h2 : p.op = true ∧ p.ix < k
          · rw [if_pos h2, if_pos ⟨h2.1, by omega⟩]
          · rw [if_neg h2, if_neg (fun h3 => h2 ⟨h3.1, by have : p.ix ≠ k := fun e => hp ⟨h3.1, e⟩; omega⟩)]
    · have hgoal : (aget ks key).map (moved i (k + 1)) = (aget ks key).map (moved i k) := by
        cases h : aget ks key with
        | none => rfl
        | some p =>
          simp only [Option.map_some, Option.some.injEq]
          unfold moved
          by_cases h2 : p.op = true ∧ p.ix < k
          · rw [if_pos h2, if_pos ⟨h2.1, by omega⟩]
          · rw [if_neg h2, if_neg (fun h3 => h2 ⟨h3.1, ?_⟩)]
            have hne : p.ix ≠ k := by
              intro e
              obtain ⟨_, y, hy, hyk⟩ := hv key p h h3.1
              rw [e, hx] at hy
              injection hy with hy
              exact hkey (by rw [hy]; exact hyk)
            omega
      rw [hgoal]
      split
      · rw [aget_aset, if_neg hkey]; exact ih
      · exact ih

/-! keys that an opened log lays -/
theorem layK_get (i : Nat) (l : List Item) : ∀ (ks : Keys) (j : Nat) (key : ByteArray) (p : Pl), aget ((l.zipIdx j).foldl (fun ks p => aset ks p.1.key ⟨false, i, p.2⟩) ks) key = some p →
    aget ks key = some p ∨ ∃ k x, p = ⟨false, i, j + k⟩ ∧ l[k]? = some x ∧ x.key = key := by
  induction l with
  | nil => intro ks j key p h; exact .inl h
  | cons x r ih =>
    intro ks j key p h
    rw [List.zipIdx_cons, List.foldl_cons] at h
    rcases ih _ (j + 1) key p h with h | ⟨k, y, e, hy, hk⟩
    · rw [aget_aset] at h
      split at h
      · rename_i hk
        injection h with h
        exact .inr ⟨0, x, by rw [← h]; rfl, rfl, hk⟩
      · exact .inl h
    · exact .inr ⟨k + 1, y, by rw [e]; congr 1; omega, hy, hk⟩
end Go.Proofs.YtplpbbdakihnfaaGreat
end

/- region's give, walked. -/
section
namespace Go.Proofs.YtplpbbdakihnfaaGreat
open Go.RowKit
open Go.ChangeMaps (setBlock)
attribute [local go_sem ↓] Go.wp_at_zero Go.wp_at_succ
set_option linter.unusedSimpArgs false
set_option linter.unusedVariables false

set_option maxRecDepth 100000 in
theorem run_eql_pl (p q : Pl) (W : World) : (binOp .eql tPlace (plv p) (plv q)).run Tryz.prog W = .ok (.bool (decide (p = q))) W := by
  unfold plv
  rw [run_eql_struct, show (10000 : Nat) = 9999 + 1 from rfl, run_equalIn_agg W 9999 tPlace _ _ (by kernel_rfl) (by kernel_rfl)]
  simp [go_sem, Program.fieldsOf, Tryz.underlying137, Op.eqFields]
  have hxy : p = q ↔ (p.op = q.op ∧ (p.rg : Int) = q.rg ∧ (p.ix : Int) = q.ix) := by
    constructor
    · rintro rfl; exact ⟨rfl, rfl, rfl⟩
    · rintro ⟨h1, h2, h3⟩
      cases p; cases q
      simp only [Pl.mk.injEq]
      exact ⟨h1, Int.ofNat.inj h2, Int.ofNat.inj h3⟩
  by_cases h1 : p.op = q.op
  · rw [if_pos h1]
    by_cases h2 : (p.rg : Int) = q.rg
    · rw [if_pos h2]
      by_cases h3 : (p.ix : Int) = q.ix
      · rw [if_pos h3, decide_eq_true (hxy.2 ⟨h1, h2, h3⟩)]
      · rw [if_neg h3, decide_eq_false (fun h => h3 (hxy.1 h).2.2)]
    · rw [if_neg h2, decide_eq_false (fun h => h2 (hxy.1 h).2.1)]
  · rw [if_neg h1, decide_eq_false (fun h => h1 (hxy.1 h).1)]
/-- .. as the walk spells it -/
theorem run_eql_pl' (p : Pl) (b : Bool) (r k : Nat) (W : World) : (binOp .eql tPlace (.agg #[.bool p.op, .int .i64 p.rg, .int .i64 p.ix]) (.agg #[.bool b, .int .i64 r, .int .i64 k])).run Tryz.prog W = .ok (.bool (decide (p = ⟨b, r, k⟩))) W := run_eql_pl p ⟨b, r, k⟩ W

theorem Lg.Ok.keysSub {G : Lg} (ho : G.Ok) {ks : Keys} (hs : ∀ key p, aget ks key = some p → aget G.keys key = some p) : ({ G with keys := ks } : Lg).Ok :=
  { ho with
    keys := by
      intro k p hp
      exact ho.keys k p (hs k p hp) }
theorem Lg.Ok.inReg {G : Lg} (ho : G.Ok) {i : Nat} {S : Sealed} (hS : G.regs[i]? = some S) : ∀ key k, aget G.keys key = some ⟨false, i, k⟩ → ∃ x, S.l[k]? = some x ∧ x.key = key := by
  intro key k h
  have := ho.keys key _ h
  simp only [Lg.plOk, Bool.false_eq_true, if_false] at this
  obtain ⟨S', x, h1, h2, h3⟩ := this
  rw [hS] at h1
  injection h1 with h1
  subst h1
  exact ⟨x, h2, h3⟩

section
variable {w : World} {h : DevH} {t : LgH} {G : Lg}
theorem LgAt.ne_map (hl : LgAt w h t G) {g : Nat} {T : TypeId} {cs : Array Value} {fz : Nat × Nat} (hg : w.heap[g]? = some (.cells cs T fz)) : ¬ g = t.M := fun e => hl.map.ne_blk hg e.symm

/-- regions' row, as it may be written -/
theorem LgAt.rowAt (hl : LgAt w h t G) {g off n c : Nat} (hR : t.R = .slice (some ⟨g, off, none⟩) n c) : off = 0 ∧ n = G.regs.length ∧ (∀ i, w.frozen? ⟨g, i, none⟩ = false) ∧ (∃ cur, w.heap[g]? = some (.cells cur tSeal (0, 0))) := by
  obtain ⟨ses, h1, h2, h3⟩ := hl.regs
  rw [hR] at h2
  rcases h2.2 with ⟨e, _⟩ | ⟨g', cap, cur, e, _, hg, _⟩
  · cases e
  · injection e with e1 e2 e3
    simp only [Option.some.injEq, Addr.mk.injEq, and_true] at e1
    obtain ⟨rfl, rfl⟩ := e1
    exact ⟨rfl, e2, fun i => frozen_of_row w g i cur tSeal hg, cur, hg⟩
theorem LgAt.rowNe (hl : LgAt w h t G) {g off n c : Nat} (hR : t.R = .slice (some ⟨g, off, none⟩) n c) {k : Nat} {T : TypeId} {cs : Array Value} {fz : Nat × Nat} (hk : w.heap[k]? = some (.cells cs T fz)) (hT : T ≠ tSeal) : ¬ k = g := by
  rintro rfl
  obtain ⟨_, _, _, cur, hg⟩ := hl.rowAt hR
  rw [hk] at hg
  injection hg with hg
  injection hg with _ e
  exact hT e
theorem LgAt.rowCell (hl : LgAt w h t G) {g n c : Nat} (hR : t.R = .slice (some ⟨g, 0, none⟩) n c) (i : Nat) (S : Sealed) (hS : G.regs[i]? = some S) : ∃ v, w.cell? ⟨g, i * 2, none⟩ = some (.int .u64 S.num) ∧ w.cell? ⟨g, i * 2 + 1, none⟩ = some v ∧ SlAt w t v S.l := by
  obtain ⟨g', off, c', hR', _, hrow⟩ := hl.row
  rw [hR] at hR'
  injection hR' with e1 e2 e3
  simp only [Option.some.injEq, Addr.mk.injEq, and_true] at e1
  obtain ⟨rfl, rfl⟩ := e1
  have := hrow i S hS
  simpa using this
/-- a region is written -/
theorem LgAt.setReg (hl : LgAt w h t G) {g n c i : Nat} (hR : t.R = .slice (some ⟨g, 0, none⟩) n c) (hi : i < G.regs.length) (S' : Sealed) (v' : Value) (hs : SlAt w t v' S'.l) (ok : ({ G with regs := G.regs.set i S' } : Lg).Ok) :
    LgAt ((w.setCell ⟨g, i * 2, none⟩ (.int .u64 S'.num)).setCell ⟨g, i * 2 + 1, none⟩ v') h t { G with regs := G.regs.set i S' } ∧ Chg (fun k => k = g) w ((w.setCell ⟨g, i * 2, none⟩ (.int .u64 S'.num)).setCell ⟨g, i * 2 + 1, none⟩ v') := by
  have hc : Chg (fun k => k = g) w ((w.setCell ⟨g, i * 2, none⟩ (.int .u64 S'.num)).setCell ⟨g, i * 2 + 1, none⟩ v') := Chg.setCell (S := fun k => k = g) (Chg.setCell (S := fun k => k = g) (Chg.refl _ _) (.inl rfl) _) (.inl rfl) _
  have hsl : ∀ v l, SlAt w t v l → SlAt ((w.setCell ⟨g, i * 2, none⟩ (.int .u64 S'.num)).setCell ⟨g, i * 2 + 1, none⟩ v') t v l := by
    rintro v l ⟨A, c, h4, h5, h6, h7⟩
    exact ⟨A, c, h4, h5, h6.chg hc (fun g cur fz hg => hl.rowNe hR hg (by decide)), h7⟩
  obtain ⟨_, hn, _, cur0, hcur0⟩ := hl.rowAt hR
  refine ⟨{ hl with
    box := hl.box.chg hc (hl.rowNe hR hl.box (by decide))
    regs := ?_
    opn := own_chg hl.opn hc (fun k hk => ?_)
    map := hl.map.chg hc (fun e => hl.map.ne_blk hcur0 e)
    lt := fun k hk => Nat.lt_of_lt_of_le (hl.lt k hk) hc.size
    ok := ok }, hc⟩
  · obtain ⟨ses, h1, h2, h3⟩ := hl.regs
    refine ⟨ses.set i (S'.num, v'), by simpa using h1, ?_, ?_⟩
    · rw [secs_set ses i _ (by omega), List.length_set]
      have h2' := h2
      rw [hR] at h2'
      obtain rfl : n = G.regs.length := hn
      have := ((h2'.stored (i * 2) (.int .u64 S'.num)).1.stored (i * 2 + 1) v').1
      rw [hR]
      exact this
    · intro j S hS
      simp only at hS
      rw [List.getElem?_set] at hS
      by_cases hij : i = j
      · rw [if_pos hij] at hS
        rw [if_pos hi] at hS
        injection hS with hS
        subst hS
        exact ⟨v', by rw [List.getElem?_set, if_pos hij, if_pos (by omega)], hsl _ _ hs⟩
      · rw [if_neg hij] at hS
        obtain ⟨v, e, hv⟩ := h3 j S hS
        exact ⟨v, by rw [List.getElem?_set, if_neg hij]; exact e, hsl _ _ hv⟩
  · rcases hl.opn.2 with ⟨e, _⟩ | ⟨g', cap, cur, e, _, hg, _⟩
    · rw [e] at hk; simp [Value.ownBlock] at hk
    · rw [e] at hk
      have : g' = k := by simpa [Value.ownBlock] using hk
      subst this
      exact hl.rowNe hR hg (by decide)
theorem Lg.Ok.gave {G : Lg} (ho : G.Ok) (hn : (akeys G.keys).Nodup) {i : Nat} (hi : i < G.regs.length) : ({ G with regs := G.regs.set i .no, keys := (giveK i G.keys (rl G.regs i)).2 } : Lg).Ok := by
  obtain ⟨S, hS⟩ : ∃ S, G.regs[i]? = some S := ⟨_, List.getElem?_eq_getElem hi⟩
  have hrl : rl G.regs i = S.l := by unfold rl; rw [List.getD_eq_getElem?_getD, hS]; rfl
  rw [hrl, ← giveT_all]
  have hsub := giveT_sub i G.keys S.l hn S.l.length (Nat.le_refl _)
  have hnone := giveT_none i G.keys S.l hn (ho.inReg hS) S.l.length (Nat.le_refl _)
  exact { ho with
    pos := by simpa using ho.pos
    most := by simpa using ho.most
    fit := by simpa using ho.fit
    small := by
      intro S' h'
      rcases List.mem_or_eq_of_mem_set h' with h' | rfl
      · exact ho.small S' h'
      · exact ⟨by simp [Sealed.no], by simp [Sealed.no]⟩
    keys := by
      intro key p hp
      have h1 := hsub key p hp
      have h2 := ho.keys key p h1
      unfold Lg.plOk at h2 ⊢
      split
      · rename_i hop
        rw [if_pos hop] at h2
        exact h2
      · rename_i hop
        rw [if_neg hop] at h2
        obtain ⟨S', x, e1, e2, e3⟩ := h2
        refine ⟨S', x, ?_, e2, e3⟩
        rw [List.getElem?_set, if_neg ?_]
        · exact e1
        · intro e
          have hop' : p.op = false := by simpa using hop
          have hpp : p = ⟨false, i, p.ix⟩ := by rw [e, ← hop']
          rw [hpp] at hp
          have := hnone key p.ix hp
          rw [← e, hS] at e1
          injection e1 with e1
          subst e1
          have := (List.getElem?_eq_some_iff.1 e2).1
          omega }

set_option maxRecDepth 100000 in
set_option maxHeartbeats 4000000 in
/-- the loop of give -/
theorem give_calls (hl : LgAt w h t G) (i : Nat) (hi : i < G.regs.length) :
    Calls Tryz.prog 87 #[.pointer (some ⟨t.L, 0, none⟩), .int .i64 i] w fun e w' => ∃ v, e = .returned v ∧ w'.ownsRow w.heap.size tItem 5 v (giveK i G.keys (rl G.regs i)).1.length (its (giveK i G.keys (rl G.regs i)).1) ∧
      LgAt w' h t { G with regs := G.regs.set i .no, keys := (giveK i G.keys (rl G.regs i)).2 } ∧ Chg t.spot w w' := by
  obtain ⟨S, hS⟩ : ∃ S, G.regs[i]? = some S := ⟨_, List.getElem?_eq_getElem hi⟩
  have hrl : rl G.regs i = S.l := by unfold rl; rw [List.getD_eq_getElem?_getD, hS]; rfl
  rw [hrl]
  obtain ⟨r, ro, rc, hR, hrg, hrow⟩ := hl.row
  obtain ⟨rfl, _, _, _⟩ := hl.rowAt hR
  obtain ⟨vs, e0, e1, hsl⟩ := hl.rowCell hR i S hS
  obtain ⟨A, c, rfl, hnc, hrd, _⟩ := hsl
  have d3 := hl.box.cell 3
  simp at d3
  rw [hR] at d3
  have hmax := (hl.ok.small S (List.mem_of_getElem? hS)).1
  have hmost := hl.ok.most
  have hll := hl.lt _ hl.ownL
  have HL := Lib.hid hl
  have HRD := Lib.hid hrd
  have HS := Lib.hid hS
  have hno := giveT_all i G.keys S.l
  obtain ⟨l, hll2⟩ : ∃ l, l = S.l := ⟨_, rfl⟩
  rw [← hll2] at e1 hmax HRD hnc hno ⊢
  have HLL := Lib.hid hll2
  have HALL := Lib.hid hno
  obtain ⟨n, hn⟩ : ∃ n, n = l.length := ⟨_, rfl⟩
  rw [← hn] at e1 hmax hnc HALL
  have HN := Lib.hid hn
  obtain ⟨m, hm⟩ : ∃ m, m = G.regs.length := ⟨_, rfl⟩
  rw [← hm] at d3 hi hmost
  have hii : (i : Int) < (m : Int) := by omega
  have HND := Lib.hid hl.nodup
  have HRR := Lib.hid hR
  clear hl hS hrl hR hrow hrd hll2 hno hn hm e0
  go_enter Tryz.func87, Tryz.ntmps87
  go_wp2
  go_loopg [5, 17] n (fun gk vv vi wr => ∃ (k : Nat) (v5 : Value), v5 = vv ∧ gk = n - k ∧ k ≤ n ∧ vi = .int .i64 k ∧
    Hid (wr.ownsRow w.heap.size tItem 5 v5 (giveT i G.keys l k).1.length (its (giveT i G.keys l k).1) ∧ LgAt wr h t { G with keys := (giveT i G.keys l k).2 } ∧ Chg (fun k => k = t.M) w wr))
  case atStart => exact ⟨0, _, rfl, rfl, Nat.zero_le _, rfl, World.ownsRow_nil _ _ _ _, HL.out, Chg.refl _ _⟩
  case round =>
    obtain ⟨k, v5, rfl, rfl, hk, rfl, H⟩ := hrel
    by_cases hlt : k < n
    · obtain ⟨x, hx⟩ : ∃ x, l[k]? = some x := ⟨_, List.getElem?_eq_getElem (by rw [← HN.out]; exact hlt)⟩
      have hsucc := giveT_succ i G.keys hx
      have hlen := giveT_len i G.keys l k (by rw [← HN.out]; exact hk)
      obtain ⟨lost, ks, hsk⟩ : ∃ lost ks, giveT i G.keys l k = (lost, ks) := ⟨_, _, rfl⟩
      rw [hsk] at H hsucc hlen
      simp only at H hlen
      obtain ⟨Gk, hGk⟩ : ∃ Gk : Lg, Gk = { G with keys := ks } := ⟨_, rfl⟩
      rw [← hGk] at H
      have hrd1 : Rd wr tItem A (l.length * 5) (its l) := by
        have := HRD.out
        rw [← HN.out] at this ⊢
        exact this.chg H.out.2.2 (fun g cur fz hg => HL.out.ne_map hg)
      obtain ⟨g, off, c', he', hg, c0, c1, c2, c3, c4⟩ := SlAt.item (w := wr) (t := ⟨0, 0, .slice none 0 0, .slice none 0 0, fun _ => True⟩) (v := .slice A l.length c) ⟨A, c, rfl, by rw [← HN.out]; exact hnc, hrd1, fun _ _ _ _ => ⟨trivial, by simp [Value.ownBlock]⟩⟩ hx
      obtain ⟨rfl, _, _⟩ : A = some ⟨g, off, none⟩ ∧ True ∧ True := by injection he' with e1 e2 e3; exact ⟨e1, trivial, trivial⟩
      have hki : (k : Int) < (n : Int) := by omega
      have HSUC := Lib.hid hsucc
      have HGK := Lib.hid hGk
      have HSK := Lib.hid hsk
      have HX := Lib.hid hx
      clear hsucc hGk hsk hrd1 hx he'
      go_wp2_with fail
      refine wp_forget (fun W => Chg No wr W ∧ Blk W wr.heap.size tItem (itc x).toArray) ⟨by (repeat (first | (with_reducible exact Chg.refl _ _) | (with_reducible assumption) | (with_reducible refine Chg.drewN ?_ _) | (with_reducible refine Chg.drew ?_) | (with_reducible refine Chg.alloc ?_ _) | (with_reducible refine Chg.setCell ?_ (by first | (left; simp [DevH.foot]; done) | (right; simp; done) | (right; simp; omega)) _))), Blk.new _ _ _⟩ (fun W hW => ?_)
      obtain ⟨hcW, hbW⟩ := hW
      obtain ⟨ga, hga⟩ : ∃ ga, wr.heap.size = ga := ⟨_, rfl⟩
      rw [hga] at hbW ⊢
      have hlW := H.out.2.1.chgNo hcW
      have hk := fun n => (hlW.chgNo ((Chg.refl No W).drewN n)).look x.key false
      have hk0 := (hlW.chgNo ((Chg.refl No W).drew)).look x.key false
      have d7 := hlW.box.cell 7
      simp at d7
      have a0 := hbW.cell 0
      have a1 := hbW.cell 1
      have a2 := hbW.cell 2
      have a3 := hbW.cell 3
      have a4 := hbW.cell 4
      simp [itc] at a0 a1 a2 a3 a4
      simp only [Bool.false_eq_true, if_false, plv] at hk hk0
      have hdec : (aget ks x.key = some ⟨false, i, k⟩) = (Gk.pl x.key = ⟨false, i, k⟩ ∧ Gk.has x.key = true) := by
        have e1 : Gk.pl x.key = (aget ks x.key).getD .zero := by rw [HGK.out]; rfl
        have e2 : Gk.has x.key = (aget ks x.key).isSome := by rw [HGK.out]; rfl
        rw [e1, e2]
        cases aget ks x.key with
        | none => simp
        | some p => simp
      have he := fun W => run_eql_pl' (Gk.pl x.key) false i k W
      have HLW := Lib.hid hlW
      have HDEC := Lib.hid hdec
      have HCW := Lib.hid hcW
      have HBW := Lib.hid hbW
      have HGA := Lib.hid hga
      obtain ⟨q, hq⟩ : ∃ q, q = Gk.pl x.key := ⟨_, rfl⟩
      rw [← hq] at hk hk0 he HDEC
      clear hlW hdec hcW hbW hga hq c0 c1 c2 c3 c4
      by_cases hpl : q = ⟨false, i, k⟩
      · have he1 : ∀ W, (binOp .eql tPlace (.agg #[.bool q.op, .int .i64 q.rg, .int .i64 q.ix]) (.agg #[.bool false, .int .i64 i, .int .i64 k])).run Tryz.prog W = .ok (.bool true) W := fun W => by rw [he W, decide_eq_true hpl]
        have HPL := Lib.hid hpl
        have HHAS : Hid (∀ W', Chg No W W' → Calls Tryz.prog 84 #[.pointer (some ⟨t.L, 0, none⟩), .string x.key] W' fun e w' => e = .returned (.bool (Gk.has x.key)) ∧ Chg No W' w') := fun W' hc => has_key (HLW.out.chgNo hc)
        clear he hpl
        cases hhas : Gk.has x.key with
        | true => 
          rw [hhas] at HHAS
          have HYES : Hid (giveT i G.keys l (k + 1) = (lost ++ [x], adel ks x.key)) := by
            show _ = _
            rw [HSUC.out, giveS, if_pos]
            simp only
            rw [HDEC.out]; exact ⟨HPL.out, hhas⟩
          clear hhas
          have HH2 := fun W' => Lib.hid (HHAS.out W')
          clear HHAS
          go_wp2_with fail
          (go_region_with
                ((first
                  | (go_at_call 84; refine ((HH2 _).out (by (repeat (first | (with_reducible exact Chg.refl _ _) | (with_reducible assumption) | (with_reducible refine Chg.drewN ?_ _) | (with_reducible refine Chg.drew ?_) | (with_reducible refine Chg.alloc ?_ _) | (with_reducible refine Chg.setCell ?_ (by first | (left; simp [DevH.foot]; done) | (right; simp; done) | (right; simp; omega)) _))))).mono ?_; rintro e w1 ⟨rfl, hc1⟩; have HC1 : Hid (Chg No W w1) := (by (repeat (first | (with_reducible exact Chg.refl _ _) | (with_reducible assumption) | (with_reducible refine Chg.drewN ?_ _) | (with_reducible refine Chg.drew ?_) | (with_reducible refine Chg.alloc ?_ _) | (with_reducible refine Chg.setCell ?_ (by first | (left; simp [DevH.foot]; done) | (right; simp; done) | (right; simp; omega)) _))) : Chg No W _).trans hc1; clear hc1))))
          all_goals
            have hb1 := HBW.out.chg HC1.out (fun h => h)
            have b0 := hb1.cell 0
            have b1 := hb1.cell 1
            have b2 := hb1.cell 2
            have b3 := hb1.cell 3
            have b4 := hb1.cell 4
            simp [itc] at b0 b1 b2 b3 b4
            have HB1 := Lib.hid hb1
            have HO1 : Hid (w1.ownsRow w.heap.size tItem 5 v5 lost.length (its lost)) := own_chg H.out.1 (HCW.out.trans HC1.out) (fun _ _ h => h)
            have hwz : w.heap.size ≤ w1.heap.size := by have h1 := H.out.2.2.size; have h2 := HCW.out.size; have h3 := HC1.out.size; omega
            clear hb1 a0 a1 a2 a3 a4 hk hk0 d7
            go_wp2_with (first
              | (at_builtin; go_loud (refine wpList_app _ rfl (.tmp 39) (.tmp 41) tItems rfl tItem Tryz.underlying46 ti_item rfl (by omega) w.heap.size _ lost.length (its lost) rfl (HO1.out.alloc _) tItem _ 1 1 (itc x) rfl (rd_item _ x) (itc_one_cell x) (by simp only [maxLen]; omega) (by omega) (by simp; omega) ?_); intro v2 w2 ho2 hg2 hb2; have HO2 := Lib.hid ho2; have HG2 := Lib.hid hg2; clear ho2 hg2 hb2))
            have hG2 : Chg (fun j => Value.ownBlock v5 = some j) w1 w2 := Chg.grown ((Chg.refl _ _).alloc _) HG2.out (fun j hj => .inl hj)
            have hl2 : LgAt w2.drew h t Gk := ((HLW.out.chgNo HC1.out).chg hG2 (fun j hj hS => by have h1 := own_new H.out.1 j hS; have h2 := HL.out.lt j hj; omega)).chgNo ((Chg.refl No w2).drew)
            have hbk := HB1.out.chg hG2 (fun hS => by have h1 := (H.out.1.lt _ hS).2; have h2 := HGA.out; omega)
            have k0 := hbk.cell 0
            simp [itc] at k0
            have d7 := hl2.box.cell 7
            simp at d7
            obtain ⟨o, hrun, hm⟩ := hl2.map.delete (P := Tryz.prog) (ty := 0) (kt' := 9) (keyLaw_string (Tryz.underlying9)) Tryz.underlying128 x.key
            rw [adel_amap] at hm
            have HL2 := Lib.hid hl2
            have HM2 := Lib.hid hm
            have HG3 := Lib.hid hG2
            clear hG2 hl2 hbk hm b0 b1 b2 b3 b4
            go_wp2_with fail
            go_region
            all_goals
              go_wp2
              go_roundg (n - (k + 1))
              case measure => omega
              case rel =>
                refine ⟨k + 1, _, rfl, rfl, by omega, by go_num, ?_⟩
                rw [HYES.out]
                have hcc : Chg (fun j => j = t.M) w2.drew (setBlock w2.drew t.M o) := chg_setBlock _ _ _
                have hM := HL.out.lt _ HL.out.ownM
                refine ⟨?_, ?_, ?_⟩
                · simp only [List.length_append, List.length_cons, List.length_nil, its_append, its_one]
                  have h1 : w2.ownsRow w.heap.size tItem 5 v2 (lost.length + 1) (its lost ++ itc x) := by simpa using HO2.out
                  have h2 := own_chg (own_chg h1 ((Chg.refl No w2).drew) (fun _ _ h => h)) hcc (fun j hj e => by have := own_new HO2.out j hj; omega)
                  simpa using h2
                · have hks : Gk.keys = ks := by rw [HGK.out]
                  have hnd := HL2.out.nodup
                  have hm2 := HM2.out
                  rw [hks] at hm2 hnd
                  have hok : ({ Gk with keys := adel ks x.key } : Lg).Ok := HL2.out.ok.keysSub (fun key p hp => by
                    rw [aget_adel _ hnd] at hp
                    rw [hks]
                    split at hp
                    · cases hp
                    · exact hp)
                  have h3 := HL2.out.rekey hcc hm2 hok
                  rw [HGK.out] at h3
                  exact h3
                · have h1 : Chg (fun j => j = t.M) w w1 := (H.out.2.2.then HCW.out (fun _ _ h => h.elim)).then HC1.out (fun _ _ h => h.elim)
                  have h2 : Chg (fun j => j = t.M) w w2 := h1.then HG3.out (fun j hj hS => by have := own_new H.out.1 j hS; omega)
                  exact h2.drew.then hcc (fun _ _ h => h)
        | false =>
          rw [hhas] at HHAS
          have HNO : Hid (giveT i G.keys l (k + 1) = (lost, ks)) := by
            show _ = _
            rw [HSUC.out, giveS, if_neg]
            simp only
            rw [HDEC.out, hhas]; exact fun hh => by cases hh.2
          clear hhas
          have HH2 := fun W' => Lib.hid (HHAS.out W')
          clear HHAS
          go_wp2_with fail
          (go_region_with
                ((first
                  | (go_at_call 84; refine ((HH2 _).out (by (repeat (first | (with_reducible exact Chg.refl _ _) | (with_reducible assumption) | (with_reducible refine Chg.drewN ?_ _) | (with_reducible refine Chg.drew ?_) | (with_reducible refine Chg.alloc ?_ _) | (with_reducible refine Chg.setCell ?_ (by first | (left; simp [DevH.foot]; done) | (right; simp; done) | (right; simp; omega)) _))))).mono ?_; rintro e w1 ⟨rfl, hc1⟩; have HC1 : Hid (Chg No W w1) := (by (repeat (first | (with_reducible exact Chg.refl _ _) | (with_reducible assumption) | (with_reducible refine Chg.drewN ?_ _) | (with_reducible refine Chg.drew ?_) | (with_reducible refine Chg.alloc ?_ _) | (with_reducible refine Chg.setCell ?_ (by first | (left; simp [DevH.foot]; done) | (right; simp; done) | (right; simp; omega)) _))) : Chg No W _).trans hc1; clear hc1))))
          all_goals
            go_wp2
            go_roundg (n - (k + 1))
            case measure => omega
            case rel =>
              refine ⟨k + 1, _, rfl, rfl, by omega, by go_num, ?_⟩
              rw [HNO.out, ← HGK.out]
              exact ⟨(own_chg H.out.1 (HCW.out.trans HC1.out) (fun _ _ h => h)), (HLW.out.chgNo HC1.out), (H.out.2.2.then HCW.out (fun _ _ h => h.elim)).then HC1.out (fun _ _ h => h.elim)⟩
      · have he1 : ∀ W, (binOp .eql tPlace (.agg #[.bool q.op, .int .i64 q.rg, .int .i64 q.ix]) (.agg #[.bool false, .int .i64 i, .int .i64 k])).run Tryz.prog W = .ok (.bool false) W := fun W => by rw [he W, decide_eq_false hpl]
        have HNO : Hid (giveT i G.keys l (k + 1) = (lost, ks)) := by
          show _ = _
          rw [HSUC.out, giveS, if_neg]
          simp only
          rw [HDEC.out]; exact fun hh => hpl hh.1
        clear he hpl
        go_wp2_with fail
        go_quiet (fail)
        go_wp2
        go_roundg (n - (k + 1))
        case measure => omega
        case rel =>
          refine ⟨k + 1, _, rfl, rfl, by omega, by go_num, ?_⟩
          rw [HNO.out, ← HGK.out]
          exact ⟨(own_chg H.out.1 (HCW.out.drewN _) (fun _ _ h => h)), (HLW.out.chgNo (by (repeat (first | (with_reducible exact Chg.refl _ _) | (with_reducible assumption) | (with_reducible refine Chg.drewN ?_ _) | (with_reducible refine Chg.drew ?_) | (with_reducible refine Chg.alloc ?_ _) | (with_reducible refine Chg.setCell ?_ (by first | (left; simp [DevH.foot]; done) | (right; simp; done) | (right; simp; omega)) _))))), (H.out.2.2.then HCW.out (fun _ _ h => h.elim)).drewN _⟩
    · obtain rfl : k = n := by omega
      rw [HALL.out] at H
      obtain ⟨lost, ks, hsk⟩ : ∃ lost ks, giveK i G.keys l = (lost, ks) := ⟨_, _, rfl⟩
      have hE := H.out.2.1
      have d3' := hE.box.cell 3
      simp at d3'
      rw [HRR.out] at d3'
      have hnd : (akeys G.keys).Nodup := HND.out
      have hrl : rl G.regs i = l := by rw [HLL.out]; unfold rl; rw [List.getD_eq_getElem?_getD, HS.out]; rfl
      have hok := HL.out.ok.gave hnd (i := i) (by have := (List.getElem?_eq_some_iff.1 HS.out).1; exact this)
      rw [hrl] at hok
      have hf := (hE.rowAt HRR.out).2.2.1
      have f0 := hf (i * 2)
      have f1 := hf (i * 2 + 1)
      have hset := hE.setReg HRR.out (i := i) (by have := (List.getElem?_eq_some_iff.1 HS.out).1; exact this) .no (.slice none 0 0) (SlAt.nil _ _) hok
      have HSET := Lib.hid hset
      obtain ⟨vq, q0, q1, Aq, cq, rfl, _, _⟩ := hE.rowCell HRR.out i S HS.out
      have HH := Lib.hid H.out
      have HKK := Lib.hid hsk
      rw [hsk] at H
      have hii2 : (i : Int) < (G.regs.length : Int) := by have := (List.getElem?_eq_some_iff.1 HS.out).1; omega
      clear hE hnd hrl hok hf hset hsk hlt
      go_wp2
      go_ret
      refine ⟨v5, rfl, ?_, ?_, ?_⟩
      · exact own_chg HH.out.1 HSET.out.2 (fun j hj e => by have := own_new HH.out.1 j hj; have := HL.out.lt _ (HL.out.ownR r (by rw [HRR.out]; rfl)); omega)
      · exact HSET.out.1
      · exact ((HH.out.2.2.mono (T := fun k => k = t.M) (S := t.spot) (fun j _ e => .inr (.inl e))).then HSET.out.2 (fun j hj e => by subst e; exact .inr (.inr (.inl (by rw [HRR.out]; rfl)))) )
end
end Go.Proofs.YtplpbbdakihnfaaGreat
end

/- region's small functions, walked: number, add, magic. -/
section
namespace Go.Proofs.YtplpbbdakihnfaaGreat
open Go.RowKit
set_option linter.unusedSimpArgs false
set_option linter.unusedVariables false

theorem gnumber_calls (A : Option Addr) (n c : Nat) (b : List UInt8) (w : World) (hr : Rd w tU8 A n (bys b)) (hn : n ≤ 8) :
    Calls Tryz.prog 118 #[.slice A n c] w fun e w' => e = .returned (.int .u64 (num b)) ∧ w = w' := by
  have hbl : b.length = n := by rw [← bys_length]; exact hr.1
  rcases Nat.eq_zero_or_pos n with rfl | hpos
  · have hb : b = [] := List.eq_nil_of_length_eq_zero hbl
    subst hb
    clear hr hbl
    go_enter Tryz.func118, Tryz.ntmps118
    go_wp2
    go_loopg [3, 4] 0 (fun k v i wr => w = wr ∧ i = .int .i64 (-1) ∧ v = .int .u64 0)
    case atStart => exact ⟨rfl, rfl, rfl⟩
    case round =>
      obtain ⟨rfl, rfl, rfl⟩ := hrel
      go_wp2
      go_ret
      exact ⟨rfl, rfl⟩
  · obtain ⟨g, off, rfl, hg, hx⟩ := hr.at_ hpos
    have HX := Lib.hid hx
    have HBL := Lib.hid hbl
    clear hr hx hbl hg
    go_enter Tryz.func118, Tryz.ntmps118
    go_wp2
    go_loopg [3, 4] n (fun k v i wr => ∃ j : Nat, k = j ∧ j ≤ n ∧ w = wr ∧ i = .int .i64 ((j : Int) - 1) ∧ v = .int .u64 ((num (b.drop j) : Nat) : Int))
    case atStart => exact ⟨n, rfl, Nat.le_refl _, rfl, by go_num, by rw [List.drop_of_length_le (by rw [HBL.out]; exact Nat.le_refl _)]; rfl⟩
    case round =>
      obtain ⟨j, rfl, hj, rfl, rfl, rfl⟩ := hrel
      rcases Nat.eq_zero_or_pos gk with rfl | h0
      · rw [show (((0 : Nat) : Int) - 1) = -1 from rfl]
        go_wp2
        go_ret
        exact ⟨by simp, rfl⟩
      · obtain ⟨m, rfl⟩ : ∃ m, gk = m + 1 := ⟨gk - 1, by omega⟩
        have e1 : ((m + 1 : Nat) : Int) - 1 = (m : Int) := by omega
        rw [e1]
        have hlt : (m : Int) < (n : Int) := by omega
        have hml : m < b.length := by rw [HBL.out]; omega
        obtain ⟨x, hxe⟩ : ∃ x, x = b[m] := ⟨_, rfl⟩
        have hc : w.cell? ⟨g, off + m, none⟩ = some (.int .u8 x.toNat) := HX.out m _ (by simp [bys, hxe, List.getElem?_eq_getElem hml])
        obtain ⟨q, hq⟩ : ∃ q, q = num (b.drop (m + 1)) := ⟨_, rfl⟩
        rw [← hq]
        have hqs : q < 72057594037927936 := by rw [hq]; exact num_small b m (by rw [HBL.out]; exact hn) hml
        have HV : Hid (num (b.drop m) = x.toNat + 256 * q) := by rw [hq, hxe]; exact num_drop b m hml
        have HO := Lib.hid (bits_or_byte q x hqs)
        clear hq hxe hml
        go_wp2
        go_roundg m
        case measure => omega
        case rel => exact ⟨m, rfl, by omega, rfl, rfl, by rw [HO.out, HV.out]⟩

theorem gadd_calls (v : Value) (base m : Nat) (xs : List Value) (k n : Nat) (w : World) (hown : w.ownsRow base tU8 1 v m xs) (hb : base ≤ w.heap.size) (hk : k < 18446744073709551616) (hn : n ≤ 8) (hm : m ≤ 140737488351232) :
    Calls Tryz.prog 111 #[v, .int .u64 k, .int .i64 n] w fun e w' => ∃ v', e = .returned v' ∧ w'.ownsRow base tU8 1 v' (m + n) (xs ++ bys (le n k)) ∧ Chg (rowOf v) w w' ∧ (v'.ownBlock = v.ownBlock ∨ ∀ j, v'.ownBlock = some j → w.heap.size ≤ j) := by
  have HO := Lib.hid hown
  clear hown
  go_enter Tryz.func111, Tryz.ntmps111
  go_wp2
  go_loopg [0, 9] n (fun g v0 i wr => ∃ q : Nat, g = n - q ∧ q ≤ n ∧ i = .int .i64 q ∧ Hid (wr.ownsRow base tU8 1 v0 (m + q) (xs ++ bys (le q k)) ∧ Chg (rowOf v) w wr ∧ (v0.ownBlock = v.ownBlock ∨ ∀ j, v0.ownBlock = some j → w.heap.size ≤ j)))
  case atStart => exact ⟨0, rfl, Nat.zero_le _, rfl, ⟨by simpa [le, bys] using HO.out, Chg.refl _ _, .inl rfl⟩⟩
  case round =>
    obtain ⟨q, rfl, hq, rfl, HQ⟩ := hrel
    by_cases h0 : q < n
    · have HW : Hid (base ≤ wr.heap.size) := Nat.le_trans hb HQ.out.2.1.size
      rename_i v0
      go_wp2_with (first
        | (at_builtin; refine wpList_app _ rfl (.tmp 12) (.tmp 18) tBytes rfl tU8 Tryz.underlying40 ti_u8 rfl (by omega) base _ (m + q) (xs ++ bys (le q k)) rfl (HQ.out.1.alloc _) tU8 _ 1 1 _ rfl (rd_one _ _ _) (by simp [Value.oneCell']) (by simp only [maxLen]; omega) (by omega) (by have := HW.out; simp; omega) ?_; intro v1 w1 ho1 hg1 hb1; have HO1 := Lib.hid ho1; have HG1 := Lib.hid hg1; have HB1 := Lib.hid hb1; clear ho1 hg1 hb1))
      go_roundg (n - (q + 1))
      case measure => omega
      case rel =>
        refine ⟨q + 1, rfl, by omega, by go_num, ?_, ?_, ?_⟩
        · have h := HO1.out
          rw [List.append_assoc] at h
          have e : bys (le (q + 1) k) = bys (le q k) ++ [.int .u8 ((k : Int) / 2 ^ (8 * q) % 256)] := by
            rw [le_snoc, bys_append]
            simp only [bys, List.map_cons, List.map_nil, le_byte]
          rw [e]
          exact h
        · refine ((HQ.out.2.1.alloc _).grown HG1.out ?_)
          intro j hj
          rcases HQ.out.2.2 with h | h
          · left; unfold rowOf; rw [← h]; exact hj
          · right; exact h j hj
        · rcases HB1.out with h | h
          · rw [h]; exact HQ.out.2.2
          · right
            intro j hj
            rw [h] at hj
            have := HQ.out.2.1.size
            simp at hj
            omega
    · have e : q = n := by omega
      subst e
      go_wp2
      go_ret
      exact ⟨_, rfl, HQ.out⟩

theorem gadd_callsI (v : Value) (base m : Nat) (xs : List Value) (k n : Int) (w : World) (hown : w.ownsRow base tU8 1 v m xs) (hb : base ≤ w.heap.size) (hk0 : 0 ≤ k) (hk : k < 18446744073709551616) (hn0 : 0 ≤ n) (hn : n ≤ 8) (hm : m ≤ 140737488351232) :
    Calls Tryz.prog 111 #[v, .int .u64 k, .int .i64 n] w fun e w' => ∃ v', e = .returned v' ∧ w'.ownsRow base tU8 1 v' (m + n.toNat) (xs ++ bys (le n.toNat k.toNat)) ∧ Chg (fun i => base ≤ i) w w' := by
  obtain ⟨k, rfl⟩ := Int.eq_ofNat_of_zero_le hk0
  obtain ⟨n, rfl⟩ := Int.eq_ofNat_of_zero_le hn0
  refine (gadd_calls v base m xs k n w hown hb (by omega) (by omega) hm).mono ?_
  rintro e w' ⟨v', rfl, h1, h2, _⟩
  exact ⟨v', rfl, by simpa using h1, h2.mono (fun i _ hi => own_new hown i hi)⟩

theorem gmagic_calls (w : World) : Calls Tryz.prog 112 #[] w fun e w' => e = .returned (.slice (some ⟨w.heap.size, 0, none⟩) 2 2) ∧ w' = w.alloc (.cells #[.int .u8 82, .int .u8 71] tU8) := by
  go_enter Tryz.func112, Tryz.ntmps112
  go_wp2
  go_ret
  exact ⟨rfl, rfl⟩

/-- what magic laid -/
theorem rd_gmagic (W : World) : Rd (W.alloc (.cells #[.int .u8 82, .int .u8 71] tU8)) tU8 (some ⟨W.heap.size, 0, none⟩) 2 (bys [82, 71]) := by
  have := Rd.ofBlk (k := 2) (Blk.new W tU8 #[.int .u8 82, .int .u8 71]) (by simp)
  simpa [bys] using this
end Go.Proofs.YtplpbbdakihnfaaGreat
end
