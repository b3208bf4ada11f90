/- A dump that was answered OK lasts; in plain Lean. -/
import Derived.Test.YtcmobcbecbajiaaImgL
namespace Go.Proofs.Ytcmobcbecbajiaa
open Go.RowKit
set_option linter.unusedSimpArgs false
set_option linter.unusedVariables false

theorem Dev.spend_pg (D : Dev) : D.spend.fl = D.fl ∧ D.spend.wt = D.wt ∧ D.spend.n = D.n := by
  unfold Dev.spend
  split
  · exact ⟨rfl, rfl, rfl⟩
  · split
    · exact ⟨rfl, rfl, rfl⟩
    · split
      · exact ⟨rfl, rfl, rfl⟩
      · exact ⟨rfl, rfl, rfl⟩
theorem Dev.changeE_or (D : Dev) : D.changeE = 0 ∧ D.spent = true ∨ D.changeE = 4 ∧ D.spent = false := by
  unfold Dev.changeE
  cases h : D.spent with
  | true => exact .inl ⟨rfl, rfl⟩
  | false => exact .inr ⟨rfl, rfl⟩
theorem Dev.writeE_or {D : Dev} {k : Nat} (hk : k < D.n) {b : List UInt8} (hb : b.length ≤ 384) : D.writeE k b.length = 0 ∧ (D.write k b).n = D.n ∧ (∀ i, (D.write k b).page i = if i = k then .full (Dev.pad b) else D.page i) ∨ D.writeE k b.length = 4 ∧ (D.write k b).n = D.n := by
  have hh : D.has (k : Int) = true := by simp [Dev.has]; omega
  obtain ⟨s1, s2, s3⟩ := D.spend_pg
  unfold Dev.writeE Dev.write Dev.change
  rw [hh, decide_eq_true hb]
  simp only [Bool.and_self, if_true, Int.toNat_natCast]
  rcases D.changeE_or with ⟨h1, h2⟩ | ⟨h1, h2⟩
  · left
    rw [h1, h2]
    refine ⟨rfl, s3, fun i => ?_⟩
    simp only [if_true]
    rw [show (D.spend.put k (.full (Dev.pad b))).page i = if i = k then .full (Dev.pad b) else D.spend.page i from ?_]
    · unfold Dev.page; rw [s1, s2]
    · unfold Dev.put Dev.page
      simp only
      by_cases hi : i = k
      · rw [if_pos hi, if_pos hi]; rfl
      · rw [if_neg hi, if_neg hi]
  · right
    rw [h1, h2]
    exact ⟨rfl, s3⟩
theorem Dev.puts_n {D : Dev} (f : Nat) (b : List UInt8) : ∀ k, f + k ≤ D.n → (D.puts f b k).n = D.n := by
  intro k
  induction k with
  | zero => intro _; rfl
  | succ k ih =>
    intro hk
    have hi := ih (by omega)
    rw [Dev.puts_succ]
    have hl : (pgOf (ck b k) k).length ≤ 384 := by rw [pgOf_len, ck_len]; omega
    rcases Dev.writeE_or (D := D.puts f b k) (k := f + k) (by omega) hl with ⟨_, h, _⟩ | ⟨_, h⟩
    · exact h.trans hi
    · exact h.trans hi
theorem Dev.putsE_or {D : Dev} (f : Nat) (b : List UInt8) (k : Nat) (hk : f + k < D.n) : D.putsE f b k = 0 ∨ D.putsE f b k = 4 := by
  have hl : (pgOf (ck b k) k).length ≤ 384 := by rw [pgOf_len, ck_len]; omega
  rw [Dev.putsE_eq]
  rcases Dev.writeE_or (D := D.puts f b k) (k := f + k) (by rw [Dev.puts_n f b k (by omega)]; omega) hl with ⟨h, _, _⟩ | ⟨h, _⟩
  · exact .inl h
  · exact .inr h
/-- as long as each write was answered OK -/
theorem Dev.puts_pg {D : Dev} (f : Nat) (b : List UInt8) : ∀ k, f + k ≤ D.n → (∀ j, j < k → D.putsE f b j = 0) → ∀ i, (D.puts f b k).page i = if f ≤ i ∧ i < f + k then .full (Dev.pad (pgOf (ck b (i - f)) (i - f))) else D.page i := by
  intro k
  induction k with
  | zero => intro _ _ i; rw [if_neg (by omega)]; rfl
  | succ k ih =>
    intro hk hE i
    have hi := ih (by omega) (fun j hj => hE j (by omega))
    have hl : (pgOf (ck b k) k).length ≤ 384 := by rw [pgOf_len, ck_len]; omega
    have h0 := hE k (by omega)
    rw [Dev.putsE_eq] at h0
    rcases Dev.writeE_or (D := D.puts f b k) (k := f + k) (by rw [Dev.puts_n f b k (by omega)]; omega) hl with ⟨_, _, h⟩ | ⟨h, _⟩
    · have h' : (D.puts f b (k + 1)).page i = if i = f + k then .full (Dev.pad (pgOf (ck b k) k)) else (D.puts f b k).page i := by rw [Dev.puts_succ]; exact h i
      rw [h', hi]
      by_cases hik : i = f + k
      · subst hik
        rw [if_pos rfl, if_pos (by omega), Nat.add_sub_cancel_left]
      · rw [if_neg hik]
        by_cases h2 : f ≤ i ∧ i < f + k
        · rw [if_pos h2, if_pos (by omega)]
        · rw [if_neg h2, if_neg (by omega)]
    · have h0' : (D.puts f b k).writeE ((f + k : Nat) : Int) (pgOf (ck b k) k).length = 0 := h0
      rw [h] at h0'
      cases h0'
/-- nothing waits -/
def Dev.still (D : Dev) : Prop := ∀ i, D.wt i = none
theorem Dev.still_page {D : Dev} (h : D.still) (i : Nat) : D.page i = D.fl i := by unfold Dev.page; rw [h i]; rfl
theorem Dev.settle_still {D : Dev} (h : D.still) (picks : List UInt8) : (D.settle picks).still ∧ ∀ i, (D.settle picks).page i = D.page i := by
  refine ⟨fun i => rfl, fun i => ?_⟩
  have e : (D.settle picks).page i = (D.settle picks).fl i := Dev.still_page (fun i => rfl) i
  rw [e, Dev.still_page h]
  unfold Dev.settle
  simp only [h i]
theorem Dev.crash_on {D : Dev} (h : D.still) (picks : List UInt8) : (D.crash picks).on.Ok ∧ (D.crash picks).on.n = D.n ∧ ∀ i, (D.crash picks).on.page i = D.page i := by
  obtain ⟨h1, h2⟩ := Dev.settle_still h picks
  have h3 : (D.crash picks).still := h1
  obtain ⟨_, h4⟩ := Dev.settle_still h3 []
  refine ⟨⟨rfl, rfl⟩, rfl, fun i => ?_⟩
  have e1 : (D.crash picks).on.page i = ((D.crash picks).settle []).page i := rfl
  have e2 : (D.crash picks).page i = (D.settle picks).page i := rfl
  rw [e1, h4, e2, h2]
theorem Dev.flush_still {D : Dev} (h : D.changeE = 0) : D.flush.still ∧ D.flush.n = D.n ∧ ∀ i, D.flush.page i = D.page i := by
  obtain ⟨s1, s2, s3⟩ := D.spend_pg
  rcases D.changeE_or with ⟨_, h2⟩ | ⟨h1, _⟩
  · unfold Dev.flush
    rw [h2, if_pos rfl]
    refine ⟨fun i => rfl, s3, fun i => ?_⟩
    rw [Dev.settled_page]
    unfold Dev.page
    rw [s1, s2]
  · rw [h] at h1; cases h1

/-- a dump of what may be kept: OK, or cut off by the power; and what was answered OK is loaded behind a crash -/
theorem DumpR.lasts {D D' : Dev} {first pages : Int} {l : List Item} {p m : Nat} {er : Int} (h : DumpR D first pages l p m er D') (hm : D.may first pages = true) (hg : goods l = true) (hn : D.n ≤ 4096) (picks : List UInt8) :
    er = 4 ∨ er = 0 ∧ p ≤ pages ∧ (D'.crash picks).on.load first p = (l.take m, 0) := by
  obtain ⟨f, pg, rfl, rfl, hfp⟩ := may_nat hm
  have hfit := ckN_fit (l := l) (pages := pg)
  cases h with
  | arg h => rw [hm, hg] at h; cases h
  | cut k _ hk _ he =>
    rcases Dev.putsE_or (D := D) f (records (l.take (fitI (376 * (pg : Int)) 0 l))) k (by omega) with h | h
    · exact absurd h he
    · exact .inl h
  | noflush _ _ he =>
    rcases (Dev.changeE_or _) with ⟨h, _⟩ | ⟨h, _⟩
    · exact absurd h he
    · exact .inl h
  | ok _ hE he =>
    refine .inr ⟨rfl, by omega, ?_⟩
    obtain ⟨b, hb⟩ : ∃ b, b = records (l.take (fitI (376 * (pg : Int)) 0 l)) := ⟨_, rfl⟩
    rw [← hb] at hfit hE he ⊢
    obtain ⟨f1, f2, f3⟩ := Dev.flush_still he
    obtain ⟨c1, c2, c3⟩ := Dev.crash_on f1 picks
    have hpn := Dev.puts_n (D := D) f b (ckN b.length) (by omega)
    have hpp := Dev.puts_pg (D := D) f b (ckN b.length) (by omega) hE
    refine c1.load_ (goods_takeN hg _) (by rw [c2, f2, hpn]; omega) (by rw [hb]) (by omega) (fun j hj => ?_)
    rw [c3, f3, hpp, if_pos (by omega), Nat.add_sub_cancel_left, hb]
end Go.Proofs.Ytcmobcbecbajiaa
