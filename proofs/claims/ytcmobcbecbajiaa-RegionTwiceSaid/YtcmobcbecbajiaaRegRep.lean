/- How a log in regions lies in memory. -/
import Derived.Test.YtcmobcbecbajiaaRegSpec
import Derived.Test.YtcmobcbecbajiaaItems
namespace Go.Proofs.Ytcmobcbecbajiaa
open Go.RowKit
open Go.ChangeMaps (setBlock)
set_option linter.unusedSimpArgs false
set_option linter.unusedVariables false

abbrev tLog : TypeId := 109
abbrev tSeal : TypeId := 111
abbrev tSeals : TypeId := 107
abbrev tPlace : TypeId := 116
abbrev tKeys : TypeId := 106
abbrev skey : ByteArray → Value := fun s => .string s
def plv (p : Pl) : Value := .agg #[.bool p.op, .int .i64 p.rg, .int .i64 p.ix]
/-- regions' row: numbers and slices -/
def sec (p : Nat × Value) : List Value := [.int .u64 p.1, p.2]
def secs (l : List (Nat × Value)) : List Value := l.flatMap sec
theorem secs_length (l : List (Nat × Value)) : (secs l).length = l.length * 2 := by
  induction l with
  | nil => rfl
  | cons x r ih => simp only [secs, List.flatMap_cons, List.length_append, List.length_cons] at ih ⊢; rw [ih]; simp [sec]; omega
theorem secs_get (l : List (Nat × Value)) (i : Nat) (p : Nat × Value) (h : l[i]? = some p) : (secs l)[i * 2]? = some (.int .u64 p.1) ∧ (secs l)[i * 2 + 1]? = some p.2 := by
  induction l generalizing i with
  | nil => cases h
  | cons y r ih =>
    have e : secs (y :: r) = sec y ++ secs r := by simp [secs]
    rw [e]
    cases i with
    | zero =>
      simp only [List.getElem?_cons_zero, Option.some.injEq] at h
      subst h
      simp [sec]
    | succ i =>
      simp only [List.getElem?_cons_succ] at h
      have e1 : (i + 1) * 2 = (sec y).length + i * 2 := by simp [sec]; omega
      have e2 : (i + 1) * 2 + 1 = (sec y).length + (i * 2 + 1) := by simp [sec]; omega
      rw [e2, e1, List.getElem?_append_right (by omega), List.getElem?_append_right (by omega), Nat.add_sub_cancel_left, Nat.add_sub_cancel_left]
      exact ih i h
theorem secs_append (a b : List (Nat × Value)) : secs (a ++ b) = secs a ++ secs b := by simp [secs]
theorem secs_set (l : List (Nat × Value)) (i : Nat) (p : Nat × Value) (hi : i < l.length) : secs (l.set i p) = ((secs l).set (i * 2) (.int .u64 p.1)).set (i * 2 + 1) p.2 := by
  induction l generalizing i with
  | nil => simp at hi
  | cons y r ih =>
    have e : ∀ (y : Nat × Value) r, secs (y :: r) = sec y ++ secs r := by intro y r; simp [secs]
    cases i with
    | zero => simp [secs, sec]
    | succ i =>
      simp only [List.length_cons] at hi
      rw [List.set_cons_succ, e, e, ih i (by omega)]
      have e1 : (i + 1) * 2 = (sec y).length + i * 2 := by simp [sec]; omega
      have e2 : (i + 1) * 2 + 1 = (sec y).length + (i * 2 + 1) := by simp [sec]; omega
      rw [e2, e1, List.set_append_right _ _ (by omega), Nat.add_sub_cancel_left, List.set_append_right _ _ (by omega), Nat.add_sub_cancel_left]

/-- where a log lies: its struct, its keys' map, its regions' row, its open region's row; the blocks that it holds to be its own -/
structure LgH where
  L : Nat
  M : Nat
  R : Value
  O : Value
  own : Nat → Prop
/-- what its calls may change -/
def LgH.spot (t : LgH) : Nat → Prop := fun k => k = t.L ∨ k = t.M ∨ t.R.ownBlock = some k ∨ t.O.ownBlock = some k

/-- the slice v reads as the items l; its row is one of the log's own, and not the open region's -/
def SlAt (w : World) (t : LgH) (v : Value) (l : List Item) : Prop :=
  ∃ A c, v = .slice A l.length c ∧ l.length ≤ c ∧ Rd w tItem A (l.length * 5) (its l) ∧ ∀ g off, 0 < l.length → A = some ⟨g, off, none⟩ → t.own g ∧ t.O.ownBlock ≠ some g
theorem SlAt.nil (w : World) (t : LgH) : SlAt w t (.slice none 0 0) [] := ⟨none, 0, rfl, Nat.le_refl _, Rd.nil _ _ _, fun _ _ h => absurd h (by simp)⟩

structure LgAt (w : World) (h : DevH) (t : LgH) (G : Lg) : Prop where
  box : Blk w t.L tLog #[.pointer (some ⟨h.d, 0, none⟩), .int .i64 G.losses, .int .i64 G.first, t.R, t.O, .int .i64 (isum G.opn), .int .u64 G.number, .map (some t.M)]
  regs : ∃ ses : List (Nat × Value), ses.length = G.regs.length ∧ w.ownsRow 0 tSeal 2 t.R G.regs.length (secs ses) ∧ ∀ (i : Nat) (S : Sealed), G.regs[i]? = some S → ∃ v, ses[i]? = some (S.num, v) ∧ SlAt w t v S.l
  opn : w.ownsRow 0 tItem 5 t.O G.opn.length (its G.opn)
  map : MapIs skey w t.M (amap plv G.keys)
  ownL : t.own t.L
  ownM : t.own t.M
  ownR : ∀ k, t.R.ownBlock = some k → t.own k
  ownO : ∀ k, t.O.ownBlock = some k → t.own k
  lt : ∀ k, t.own k → k < w.heap.size
  far : t.M ≠ h.M
  ok : G.Ok

theorem own_ne {w : World} {v : Value} {base e size n base' e' size' n' : Nat} {xs xs' : List Value} {v' : Value} (h : w.ownsRow base e size v n xs) (h' : w.ownsRow base' e' size' v' n' xs') (hne : e ≠ e') (k : Nat) (h1 : v.ownBlock = some k) : v'.ownBlock ≠ some k := by
  rcases h.2 with ⟨rfl, _⟩ | ⟨g, cap, cur, rfl, _, hg, _⟩
  · simp [Value.ownBlock] at h1
  · have : g = k := by simpa [Value.ownBlock] using h1
    subst this
    exact own_other h' hg hne

theorem Rd.notS {S : Nat → Prop} {w w' : World} {t : TypeId} {A : Option Addr} {k : Nat} {xs : List Value} (h : Rd w t A k xs) (hc : Chg S w w') (hn : ∀ g off, 0 < k → A = some ⟨g, off, none⟩ → ¬ S g) : Rd w' t A k xs :=
  ⟨h.1, fun hk => by
    obtain ⟨g, off, cur, fz, e, hg, hx⟩ := h.2 hk
    exact ⟨g, off, cur, fz, e, hc.at_ hg (hn g off hk e), hx⟩⟩

section
variable {S : Nat → Prop} {w w' : World} {h : DevH} {t : LgH} {G : Lg}
theorem SlAt.chg {v : Value} {l : List Item} (hs : SlAt w t v l) (hc : Chg S w w') (hn : ∀ k, t.own k → t.O.ownBlock ≠ some k → ¬ S k) : SlAt w' t v l := by
  obtain ⟨A, c, e, h1, h2, h3⟩ := hs
  exact ⟨A, c, e, h1, h2.notS hc (fun g off h0 he => by have := h3 g off (by omega) he; exact hn g this.1 this.2), h3⟩
theorem LgAt.chg (hl : LgAt w h t G) (hc : Chg S w w') (hn : ∀ k, t.own k → ¬ S k) : LgAt w' h t G :=
  { hl with
    box := hl.box.chg hc (hn _ hl.ownL)
    regs := by
      obtain ⟨ses, h1, h2, h3⟩ := hl.regs
      refine ⟨ses, h1, own_chg h2 hc (fun k hk => hn k (hl.ownR k hk)), fun i S hS => ?_⟩
      obtain ⟨v, e, hv⟩ := h3 i S hS
      exact ⟨v, e, hv.chg hc (fun k hk _ => hn k hk)⟩
    opn := own_chg hl.opn hc (fun k hk => hn k (hl.ownO k hk))
    map := hl.map.chg hc (hn _ hl.ownM)
    lt := fun k hk => Nat.lt_of_lt_of_le (hl.lt k hk) hc.size }
theorem LgAt.chgNo (hl : LgAt w h t G) (hc : Chg No w w') : LgAt w' h t G := hl.chg hc (fun _ _ h => h)
/-- what the device changes is none of the log's spots -/
theorem LgAt.not_foot {N : Nat} {D : Dev} (hl : LgAt w h t G) (hd : DevN N w h D) (k : Nat) (hk : t.spot k) : ¬ h.foot k := by
  rcases hk with rfl | rfl | hk | hk
  · exact hd.not_foot hl.box (by decide) (by decide)
  · rintro (hk | hk | hk)
    · obtain ⟨a, b, c, e, hb⟩ := hd.box
      exact hl.map.ne_blk hb hk
    · obtain ⟨ps, hb, _⟩ := hd.row
      exact hl.map.ne_blk hb hk
    · exact hl.far hk
  · obtain ⟨ses, _, h2, _⟩ := hl.regs
    rcases h2.2 with ⟨e, _⟩ | ⟨g, cap, cur, e, _, hg, _⟩
    · rw [e] at hk; simp [Value.ownBlock] at hk
    · rw [e] at hk
      have : g = k := by simpa [Value.ownBlock] using hk
      subst this
      exact hd.not_foot hg (by decide) (by decide)
  · rcases hl.opn.2 with ⟨e, _⟩ | ⟨g, cap, cur, e, _, hg, _⟩
    · rw [e] at hk; simp [Value.ownBlock] at hk
    · rw [e] at hk
      have : g = k := by simpa [Value.ownBlock] using hk
      subst this
      exact hd.not_foot hg (by decide) (by decide)
theorem LgAt.spot_ty (hl : LgAt w h t G) (k : Nat) (hk : t.spot k) (cs : Array Value) (T : TypeId) (hb : Blk w k T cs) : T = tLog ∨ T = tSeal ∨ T = tItem := by
  rcases hk with rfl | rfl | hk | hk
  · exact .inl (by have h1 := hl.box; unfold Blk at h1 hb; rw [h1] at hb; injection hb with hb; injection hb with _ hb; exact hb.symm)
  · exact absurd rfl (hl.map.ne_blk hb)
  · obtain ⟨ses, _, h2, _⟩ := hl.regs
    rcases h2.2 with ⟨e, _⟩ | ⟨g, cap, cur, e, _, hg, _⟩
    · rw [e] at hk; simp [Value.ownBlock] at hk
    · rw [e] at hk
      have : g = k := by simpa [Value.ownBlock] using hk
      subst this
      unfold Blk at hb; rw [hg] at hb; injection hb with hb; injection hb with _ hb
      exact .inr (.inl hb.symm)
  · rcases hl.opn.2 with ⟨e, _⟩ | ⟨g, cap, cur, e, _, hg, _⟩
    · rw [e] at hk; simp [Value.ownBlock] at hk
    · rw [e] at hk
      have : g = k := by simpa [Value.ownBlock] using hk
      subst this
      unfold Blk at hb; rw [hg] at hb; injection hb with hb; injection hb with _ hb
      exact .inr (.inr hb.symm)
/-- what the log changes leaves the device as it is -/
theorem LgAt.dev {N : Nat} {D : Dev} (hl : LgAt w h t G) (hd : DevN N w h D) (hc : Chg S w w') (hS : ∀ k, k < w.heap.size → S k → t.spot k) : DevN N w' h D := by
  have hlt : ∀ k, h.foot k → k < w.heap.size := by
    intro k hk
    rcases hk with rfl | rfl | rfl
    · obtain ⟨a, b, c, e, hb⟩ := hd.box; exact hb.lt
    · obtain ⟨ps, hb, _⟩ := hd.row; exact hb.lt
    · obtain ⟨es, hm, _⟩ := hd.map; exact hm.lt
  have hf : ∀ k, h.foot k → ¬ S k := fun k hk hs => hl.not_foot hd k (hS k (hlt k hk) hs) hk
  refine hd.chg hc (hf _ (.inl rfl)) (hf _ (.inr (.inl rfl))) (hf _ (.inr (.inr rfl))) ?_
  intro g cs T hg hT hb hs
  rcases hl.spot_ty g (hS g hb.lt hs) cs T hb with rfl | rfl | rfl <;> rcases hT with hT | hT <;> exact absurd hT (by decide)
/-- what the device changes leaves the log as it is -/
theorem LgAt.foot {N : Nat} {D : Dev} (hl : LgAt w h t G) (hd : DevN N w h D) (hc : Chg h.foot w w') : LgAt w' h t G := by
  have hs : ∀ k, t.spot k → ¬ h.foot k := fun k hk => hl.not_foot hd k hk
  have hrow : ∀ v l, SlAt w t v l → SlAt w' t v l := by
    rintro v l ⟨A, c, e, h1, h2, h3⟩
    exact ⟨A, c, e, h1, h2.chg hc (fun g cur fz hg => hd.not_foot hg (by decide) (by decide)), h3⟩
  exact { hl with
    box := hl.box.chg hc (hs _ (.inl rfl))
    regs := by
      obtain ⟨ses, h1, h2, h3⟩ := hl.regs
      refine ⟨ses, h1, own_chg h2 hc (fun k hk => hs k (.inr (.inr (.inl hk)))), fun i S hS => ?_⟩
      obtain ⟨v, e, hv⟩ := h3 i S hS
      exact ⟨v, e, hrow _ _ hv⟩
    opn := own_chg hl.opn hc (fun k hk => hs k (.inr (.inr (.inr hk))))
    map := hl.map.chg hc (hs _ (.inr (.inl rfl)))
    lt := fun k hk => Nat.lt_of_lt_of_le (hl.lt k hk) hc.size }
theorem LgAt.nodup (hl : LgAt w h t G) : (akeys G.keys).Nodup := by
  have := hl.map.nodup
  rwa [akeys_amap] at this
end
end Go.Proofs.Ytcmobcbecbajiaa
