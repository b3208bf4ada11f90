/- The flash device's settle, Crash, On. -/
import Derived.Test.YtinofdfjaopdcaaFlashE
import Derived.Deep.LoopGhost
import Derived.Deep.DrawnRows
namespace Go.Proofs.Ytinofdfjaopdcaa
open Go.RowKit
open Go.ChangeMaps (setBlock)
attribute [local go_sem ↓] Go.wp_at_zero Go.wp_at_succ
set_option linter.unusedSimpArgs false
set_option linter.unusedVariables false

theorem filt_get (p : Nat → Bool) : ∀ (n k a : Nat), ((List.range n).filter p)[k]? = some a → a < n ∧ p a = true ∧ ((List.range a).filter p).length = k := by
  intro n
  induction n with
  | zero => intro k a h; simp at h
  | succ n ih =>
    intro k a h
    rw [List.range_succ, List.filter_append] at h
    by_cases hk : k < ((List.range n).filter p).length
    · rw [List.getElem?_append_left hk] at h
      obtain ⟨h1, h2, h3⟩ := ih k a h
      exact ⟨by omega, h2, h3⟩
    · rw [List.getElem?_append_right (by omega)] at h
      by_cases hp : p n = true
      · rw [show List.filter p [n] = [n] by simp [hp]] at h
        have hk0 : k - ((List.range n).filter p).length = 0 := by
          cases hh : k - ((List.range n).filter p).length with
          | zero => rfl
          | succ j => rw [hh] at h; simp at h
        rw [hk0] at h
        simp only [List.getElem?_cons_zero, Option.some.injEq] at h
        subst h
        exact ⟨by omega, hp, by omega⟩
      · rw [show List.filter p [n] = [] by simp [hp]] at h
        simp at h
theorem filt_at (p : Nat → Bool) : ∀ (n a : Nat), a < n → p a = true → ((List.range n).filter p)[((List.range a).filter p).length]? = some a := by
  intro n
  induction n with
  | zero => intro a h; omega
  | succ n ih =>
    intro a ha hp
    rw [List.range_succ, List.filter_append]
    by_cases h : a < n
    · have := ih a h hp
      rw [List.getElem?_append_left (List.getElem?_eq_some_iff.1 this).1]
      exact this
    · obtain rfl : a = n := by omega
      rw [List.getElem?_append_right (Nat.le_refl _), Nat.sub_self, show List.filter p [a] = [a] by simp [hp]]
      rfl
theorem Dev.waiting_get {D : Dev} {k a : Nat} (h : D.waiting[k]? = some a) : a < D.n ∧ (D.wt a).isSome = true ∧ D.rank a = k := filt_get (fun i => (D.wt i).isSome) D.n k a h
theorem Dev.waiting_at {D : Dev} {a : Nat} (ha : a < D.n) (hw : (D.wt a).isSome = true) : D.waiting[D.rank a]? = some a := filt_at (fun i => (D.wt i).isSome) D.n a ha hw

/-- when k of those that wait were settled -/
def Dev.atK (D : Dev) (picks : List UInt8) (k : Nat) : Dev := { D with fl := fun i => match D.wt i with | none => D.fl i | some p => if D.rank i < k then Dev.fate (D.fl i) p picks[D.rank i]? else D.fl i }
theorem Dev.atK_zero (D : Dev) (picks : List UInt8) : D.atK picks 0 = D := by
  unfold Dev.atK
  have : (fun i => match D.wt i with | none => D.fl i | some p => if D.rank i < 0 then Dev.fate (D.fl i) p picks[D.rank i]? else D.fl i) = D.fl := by
    funext i
    cases D.wt i with
    | none => rfl
    | some p => simp
  rw [this]
/-- one page's content becomes p -/
def Dev.setFl (D : Dev) (a : Nat) (p : Pg) : Dev := { D with fl := fun i => if i = a then p else D.fl i }
theorem Dev.atK_succ {D : Dev} {picks : List UInt8} {k a : Nat} {p : Pg} (hk : D.waiting[k]? = some a) (hp : D.wt a = some p) (hb : ∀ i, (D.wt i).isSome = true → i < D.n) : D.atK picks (k + 1) = (D.atK picks k).setFl a (Dev.fate (D.fl a) p picks[k]?) := by
  obtain ⟨h1, h2, h3⟩ := Dev.waiting_get hk
  unfold Dev.setFl Dev.atK
  simp only
  congr 1
  funext i
  by_cases hi : i = a
  · subst hi
    rw [if_pos rfl, hp]
    simp only [h3]
    rw [if_pos (by omega)]
  · rw [if_neg hi]
    cases hw : D.wt i with
    | none => rfl
    | some q =>
      simp only
      have hne : D.rank i ≠ k := by
        intro e
        have := Dev.waiting_at (hb i (by rw [hw]; rfl)) (by rw [hw]; rfl)
        rw [e, hk] at this
        exact hi (Option.some.inj this).symm
      by_cases h : D.rank i < k
      · rw [if_pos h, if_pos (by omega)]
      · rw [if_neg h, if_neg (by omega)]
theorem Dev.atK_fl {D : Dev} {picks : List UInt8} {k a : Nat} (hk : D.waiting[k]? = some a) : (D.atK picks k).fl a = D.fl a := by
  obtain ⟨h1, h2, h3⟩ := Dev.waiting_get hk
  unfold Dev.atK
  simp only
  cases D.wt a with
  | none => rfl
  | some p => simp only; rw [if_neg (by omega)]
theorem Dev.setFl_same {D : Dev} {a : Nat} : D.setFl a (D.fl a) = D := by
  unfold Dev.setFl
  have : (fun i => if i = a then D.fl a else D.fl i) = D.fl := by
    funext i
    by_cases h : i = a
    · rw [if_pos h, h]
    · rw [if_neg h]
  rw [this]
theorem Dev.atK_all {D : Dev} {picks : List UInt8} (hb : ∀ i, (D.wt i).isSome = true → i < D.n) : { D.atK picks D.waiting.length with wt := fun _ => none, losses := Dev.more D.losses } = D.settle picks := by
  unfold Dev.atK Dev.settle
  simp only
  congr 1
  funext i
  cases hw : D.wt i with
  | none => rfl
  | some p =>
    have := Dev.waiting_at (hb i (by rw [hw]; rfl)) (by rw [hw]; rfl)
    simp only
    rw [if_pos (List.getElem?_eq_some_iff.1 this).1]
theorem DevN.wt_lt {N : Nat} {w : World} {h : DevH} {D : Dev} (hd : DevN N w h D) : ∀ i, (D.wt i).isSome = true → i < D.n := by
  intro i hi
  obtain ⟨es, _, h1, h2⟩ := hd.map
  obtain ⟨pg, hpg⟩ := Option.isSome_iff_exists.1 hi
  obtain ⟨v, hv⟩ := h2 i pg hpg
  obtain ⟨j, pg', e1, e2, _⟩ := h1 _ _ (aget_mem hv)
  omega

/-- the row's store -/
theorem DevN.setFl {w : World} {h : DevH} {D : Dev} (hd : DevAt w h D) (a : Nat) {v : Value} {p : Pg} (hp : PgAt w.heap.size w v p) : DevAt (w.setCell ⟨h.F, a, none⟩ v) h (D.setFl a p) := by
  have AP := DevN.apart hd
  have hc : Chg (fun i => i = h.F) w (w.setCell ⟨h.F, a, none⟩ v) := chg_setCell w ⟨h.F, a, none⟩ v
  obtain ⟨x, b, c, e, hb⟩ := hd.box
  obtain ⟨ps, hF, hl, hrow⟩ := hd.row
  obtain ⟨es, hm, hw1, hw2⟩ := hd.map
  have hkeep : ∀ g cs t, g < w.heap.size → (t = tPage ∨ t = tU8) → Blk w g t cs → ¬ g = h.F := fun g cs t _ ht hb e => by
    refine DevN.not_foot hd hb ?_ ?_ (.inr (.inl e)) <;> rcases ht with rfl | rfl <;> decide
  refine DevN.step hd (hc.mono (fun k _ e => .inr (.inl e))) rfl ⟨x, b, c, e, hb.chg hc (fun e => AP.1 e.symm)⟩ (.inl ⟨ps.set a v, ?_, ?_, ?_⟩) (.inr ⟨rfl, ?_⟩) hd.armed
  · have := hF.set_ a v
    simpa using this
  · show (ps.set a v).length = D.n
    rw [List.length_set]; exact hl
  · intro i u hu
    show PgAt _ _ u (if i = a then p else D.fl i)
    rw [World.size_setCell]
    by_cases hi : i = a
    · subst hi
      rw [if_pos rfl]
      have : u = v := by
        by_cases hlt : i < ps.length
        · rw [List.getElem?_set_self hlt] at hu
          exact (Option.some.inj hu).symm
        · rw [List.getElem?_eq_none (by rw [List.length_set]; omega)] at hu
          cases hu
      rw [this]
      exact hp.chg hc hkeep
    · rw [if_neg hi]
      rw [List.getElem?_set_ne (fun e => hi e.symm)] at hu
      exact (hrow i u hu).chg hc hkeep
  · exact hc.block h.M hm.lt (fun e => AP.2.2 e)
theorem DevN.cells {N : Nat} {w : World} {h : DevH} {D : Dev} (hd : DevN N w h D) : w.cell? ⟨h.d, 0, none⟩ = some (.slice (some ⟨h.F, 0, none⟩) D.n D.n) ∧ w.cell? ⟨h.d, 1, none⟩ = some (.map (some h.M)) ∧
    w.cell? ⟨h.d, 4, none⟩ = some (.int .i64 D.losses) ∧ w.frozen? ⟨h.d, 4, none⟩ = false := by
  obtain ⟨a, b, c, e, hb⟩ := hd.box
  have h0 := hb.cell 0
  have h1 := hb.cell 1
  have h4 := hb.cell 4
  simp at h0 h1 h4
  exact ⟨h0, h1, h4, hb.frozen 4⟩
theorem DevN.rowcell {N : Nat} {w : World} {h : DevH} {D : Dev} (hd : DevN N w h D) {a : Nat} (ha : a < D.n) : (∃ u, w.cell? ⟨h.F, a, none⟩ = some u) ∧ w.frozen? ⟨h.F, a, none⟩ = false := by
  obtain ⟨ps, hF, hl, _⟩ := hd.row
  refine ⟨⟨ps[a], ?_⟩, hF.frozen a⟩
  rw [hF.cell a]
  simp [List.getElem?_eq_getElem (show a < ps.length by omega)]
end Go.Proofs.Ytinofdfjaopdcaa
