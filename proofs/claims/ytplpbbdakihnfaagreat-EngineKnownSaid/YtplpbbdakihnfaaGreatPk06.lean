/- Packed texts: RegC, RegD, RegE, RegF. -/
import Derived.Test.YtplpbbdakihnfaaGreatPk05
import Derived.Test.YtplpbbdakihnfaaGreatPk03
import Derived.WalkLawsBesides
import Derived.Deep.QuietTactic
import Derived.BigQuiet
import Derived.Deep.LoopGhost
import Derived.Deep.DrawnRows
import Derived.Deep.RegionHeld3
import Derived.RegionTactic
import Derived.ChangeAlike
import Derived.Laws.OwnMore
import Derived.Test.YtplpbbdakihnfaaGreatPk04
import Derived.BigRegion

/- slices.Min and Max at numbers, cmp.Compare, walked. -/
section
namespace Go.Proofs.YtplpbbdakihnfaaGreat
open Go.RowKit
set_option linter.unusedSimpArgs false
set_option linter.unusedVariables false

abbrev tU64 : TypeId := 28
abbrev tU64s : TypeId := 167
def u64s (l : List Nat) : List Value := l.map fun x : Nat => .int .u64 (x : Int)
theorem u64s_length (l : List Nat) : (u64s l).length = l.length := by simp [u64s]
theorem foldl_snoc {α β : Type} (f : β → α → β) (b : β) (l : List α) (k : Nat) (x : α) (h : l[k]? = some x) : (l.take (k + 1)).foldl f b = f ((l.take k).foldl f b) x := by
  rw [List.take_add_one, h, Option.toList, List.foldl_append]; rfl
theorem min_cast (a b : Nat) : ((min a b : Nat) : Int) = min (a : Int) (b : Int) := by omega
theorem max_cast (a b : Nat) : ((max a b : Nat) : Int) = max (a : Int) (b : Int) := by omega

theorem min_calls (A : Option Addr) (n c : Nat) (l : List Nat) (w : World) (hr : Rd w tU64 A n (u64s l)) (h0 : 0 < n) (hn : n ≤ 1000000) (hc : n ≤ c) (hb : ∀ x ∈ l, x < 18446744073709551616) :
    Calls Tryz.prog 99 #[.slice A n c] w fun e w' => e = .returned (.int .u64 (listMin l)) ∧ w = w' := by
  have hl : l.length = n := by rw [← u64s_length]; exact hr.1
  obtain ⟨g, off, rfl, hg, hx⟩ := hr.at_ h0
  obtain ⟨x0, r, rfl⟩ : ∃ x r, l = x :: r := by
    cases l with
    | nil => simp at hl; omega
    | cons x r => exact ⟨x, r, rfl⟩
  have c0 := hx 0 (.int .u64 (x0 : Int)) rfl
  rw [Nat.add_zero] at c0
  have HX : Hid (∀ (j x : Nat), r[j]? = some x → w.cell? ⟨g, off + (j + 1), none⟩ = some (.int .u64 (x : Int))) := fun j x hj => hx (j + 1) _ (by simp [u64s, hj])
  have HL : Hid (r.length + 1 = n) := by show _ = _; simpa using hl
  have h0i : (0 : Int) < (n : Int) := by omega
  have h1i : ¬ (n : Int) < 1 := by omega
  clear hr hx hl hg hb
  go_enter Tryz.func99, Tryz.ntmps99
  go_wp2
  go_loopg [3, 4] n (fun gk m i wr => ∃ k : Nat, gk = n - k ∧ k ≤ r.length ∧ w = wr ∧ i = .int .i64 ((k + 1 : Nat) : Int) ∧ m = .int .u64 (((r.take k).foldl min x0 : Nat) : Int))
  case atStart => exact ⟨0, by omega, by omega, rfl, rfl, rfl⟩
  case round =>
    obtain ⟨k, rfl, hk, rfl, rfl, rfl⟩ := hrel
    have hn1 := HL.out
    by_cases hlt : k < r.length
    · obtain ⟨x, hx⟩ : ∃ x, r[k]? = some x := ⟨_, List.getElem?_eq_getElem hlt⟩
      have cx := HX.out k x hx
      have HS : Hid ((r.take (k + 1)).foldl min x0 = min ((r.take k).foldl min x0) x) := foldl_snoc _ _ _ _ _ hx
      obtain ⟨m, hm⟩ : ∃ m, m = (r.take k).foldl min x0 := ⟨_, rfl⟩
      rw [← hm] at HS ⊢
      have hki : ((k + 1 : Nat) : Int) < (n : Int) := by omega
      clear hx hm
      go_wp2
      all_goals
        go_roundg (n - (k + 1))
        case measure => omega
        case rel => exact ⟨k + 1, rfl, by omega, rfl, by go_num, by rw [HS.out]; first | rfl | (rw [min_cast]; rfl) | (rw [min_cast]; congr 1; omega)⟩
    · obtain rfl : k = r.length := by omega
      have hki : ¬ ((r.length + 1 : Nat) : Int) < (n : Int) := by omega
      clear hlt
      go_wp2
      go_ret
      exact ⟨by simp [listMin, List.take_length], rfl⟩
theorem max_calls (A : Option Addr) (n c : Nat) (l : List Nat) (w : World) (hr : Rd w tU64 A n (u64s l)) (h0 : 0 < n) (hn : n ≤ 1000000) (hc : n ≤ c) (hb : ∀ x ∈ l, x < 18446744073709551616) :
    Calls Tryz.prog 100 #[.slice A n c] w fun e w' => e = .returned (.int .u64 (listMax l)) ∧ w = w' := by
  have hl : l.length = n := by rw [← u64s_length]; exact hr.1
  obtain ⟨g, off, rfl, hg, hx⟩ := hr.at_ h0
  obtain ⟨x0, r, rfl⟩ : ∃ x r, l = x :: r := by
    cases l with
    | nil => simp at hl; omega
    | cons x r => exact ⟨x, r, rfl⟩
  have c0 := hx 0 (.int .u64 (x0 : Int)) rfl
  rw [Nat.add_zero] at c0
  have HX : Hid (∀ (j x : Nat), r[j]? = some x → w.cell? ⟨g, off + (j + 1), none⟩ = some (.int .u64 (x : Int))) := fun j x hj => hx (j + 1) _ (by simp [u64s, hj])
  have HL : Hid (r.length + 1 = n) := by show _ = _; simpa using hl
  have h0i : (0 : Int) < (n : Int) := by omega
  have h1i : ¬ (n : Int) < 1 := by omega
  clear hr hx hl hg hb
  go_enter Tryz.func100, Tryz.ntmps100
  go_wp2
  go_loopg [3, 4] n (fun gk m i wr => ∃ k : Nat, gk = n - k ∧ k ≤ r.length ∧ w = wr ∧ i = .int .i64 ((k + 1 : Nat) : Int) ∧ m = .int .u64 (((r.take k).foldl max x0 : Nat) : Int))
  case atStart => exact ⟨0, by omega, by omega, rfl, rfl, rfl⟩
  case round =>
    obtain ⟨k, rfl, hk, rfl, rfl, rfl⟩ := hrel
    have hn1 := HL.out
    by_cases hlt : k < r.length
    · obtain ⟨x, hx⟩ : ∃ x, r[k]? = some x := ⟨_, List.getElem?_eq_getElem hlt⟩
      have cx := HX.out k x hx
      have HS : Hid ((r.take (k + 1)).foldl max x0 = max ((r.take k).foldl max x0) x) := foldl_snoc _ _ _ _ _ hx
      obtain ⟨m, hm⟩ : ∃ m, m = (r.take k).foldl max x0 := ⟨_, rfl⟩
      rw [← hm] at HS ⊢
      have hki : ((k + 1 : Nat) : Int) < (n : Int) := by omega
      clear hx hm
      go_wp2
      all_goals
        go_roundg (n - (k + 1))
        case measure => omega
        case rel => exact ⟨k + 1, rfl, by omega, rfl, by go_num, by rw [HS.out]; first | rfl | (rw [max_cast]; rfl) | (rw [max_cast]; congr 1; omega)⟩
    · obtain rfl : k = r.length := by omega
      have hki : ¬ ((r.length + 1 : Nat) : Int) < (n : Int) := by omega
      clear hlt
      go_wp2
      go_ret
      exact ⟨by simp [listMax, List.take_length], rfl⟩

/-- how two numbers stand to each other -/
def cmpN (a b : Nat) : Int := if a < b then -1 else if b < a then 1 else 0
theorem isNaN_calls (a : Int) (w : World) : Calls Tryz.prog 120 #[.int .u64 a] w fun e w' => e = .returned (.bool false) ∧ w = w' := by
  go_enter Tryz.func120, Tryz.ntmps120
  go_wp2
  go_ret
  exact ⟨rfl, rfl⟩
theorem compare_calls (a b : Nat) (w : World) : Calls Tryz.prog 103 #[.int .u64 a, .int .u64 b] w fun e w' => e = .returned (.int .i64 (cmpN a b)) ∧ w = w' := by
  have HE : Hid (cmpN a b = if a < b then -1 else if b < a then 1 else 0) := rfl
  obtain ⟨c, hc⟩ : ∃ c, c = cmpN a b := ⟨_, rfl⟩
  rw [← hc] at HE ⊢
  clear hc
  by_cases h1 : a < b
  · have b1 : (a : Int) < (b : Int) := by omega
    have HC : Hid (c = -1) := by show _ = _; rw [HE.out, if_pos h1]
    clear HE
    go_enter Tryz.func103, Tryz.ntmps103
    go_wp2_with (first | (go_at_call 120; refine (isNaN_calls _ _).mono ?_; rintro e w' ⟨rfl, rfl⟩))
    go_ret
    exact ⟨by rw [HC.out]; rfl, rfl⟩
  · by_cases h2 : b < a
    · have b1 : ¬ (a : Int) < (b : Int) := by omega
      have b2 : (b : Int) < (a : Int) := by omega
      have HC : Hid (c = 1) := by show _ = _; rw [HE.out, if_neg h1, if_pos h2]
      clear HE
      go_enter Tryz.func103, Tryz.ntmps103
      go_wp2_with (first | (go_at_call 120; refine (isNaN_calls _ _).mono ?_; rintro e w' ⟨rfl, rfl⟩))
      go_ret
      exact ⟨by rw [HC.out]; rfl, rfl⟩
    · have b1 : ¬ (a : Int) < (b : Int) := by omega
      have b2 : ¬ (b : Int) < (a : Int) := by omega
      have HC : Hid (c = 0) := by show _ = _; rw [HE.out, if_neg h1, if_neg h2]
      clear HE
      go_enter Tryz.func103, Tryz.ntmps103
      go_wp2_with (first | (go_at_call 120; refine (isNaN_calls _ _).mono ?_; rintro e w' ⟨rfl, rfl⟩))
      go_ret
      exact ⟨by rw [HC.out]; rfl, rfl⟩

/-- the closure of byNumber -/
theorem byCmp_calls {w : World} {h : DevH} {t : LgH} {G : Lg} (hl : LgAt w h t G) (B : Nat) (hB : Blk w B 82 #[.pointer (some ⟨t.L, 0, none⟩)]) (a b : Nat) (ha : a < G.regs.length) (hb : b < G.regs.length) :
    Calls Tryz.prog 102 #[.int .i64 a, .int .i64 b, .pointer (some ⟨B, 0, none⟩)] w fun e w' => e = .returned (.int .i64 (cmpN (rnum G.regs a) (rnum G.regs b))) ∧ ∃ n, w' = w.drewN n := by
  obtain ⟨ses, hn, ho, hs⟩ := hl.regs
  obtain ⟨va, hva, qa⟩ := hs a _ (List.getElem?_eq_getElem ha)
  obtain ⟨vb, hvb, qb⟩ := hs b _ (List.getElem?_eq_getElem hb)
  obtain ⟨A, c, hR, hnc, hrd⟩ := own_slice ho
  have c3 := hl.box.cell 3
  simp at c3
  have cB := hB.cell 0
  simp at cB
  rw [hR] at c3
  obtain ⟨g, off, rfl, hg, hx⟩ := hrd.at_ (j := 0) (by omega)
  have ca := hx (a * 2) _ (secs_get ses a _ hva).1
  have cb := hx (b * 2) _ (secs_get ses b _ hvb).1
  have ea : rnum G.regs a = (G.regs[a]).num := by unfold rnum; rw [List.getD_eq_getElem?_getD, List.getElem?_eq_getElem ha]; rfl
  have eb : rnum G.regs b = (G.regs[b]).num := by unfold rnum; rw [List.getD_eq_getElem?_getD, List.getElem?_eq_getElem hb]; rfl
  rw [← ea] at ca
  rw [← eb] at cb
  have hai : (a : Int) < (G.regs.length : Int) := by omega
  have hbi : (b : Int) < (G.regs.length : Int) := by omega
  obtain ⟨na, hna⟩ : ∃ na, na = rnum G.regs a := ⟨_, rfl⟩
  obtain ⟨nb, hnb⟩ : ∃ nb, nb = rnum G.regs b := ⟨_, rfl⟩
  obtain ⟨m, hm⟩ : ∃ m, m = G.regs.length := ⟨_, rfl⟩
  rw [← hna] at ca ⊢
  rw [← hnb] at cb ⊢
  rw [← hm] at c3 hai hbi
  simp only at ca cb
  clear hl hB hn ho hs hva hvb hR hrd hg hx ea eb hna hnb hm qa qb ha hb
  go_enter Tryz.func102, Tryz.ntmps102
  go_wp2_with fail
  go_quiet ((go_at_call 103; exact quiet_left (compare_calls _ _ _)))
  go_wp2
  go_ret
  exact ⟨rfl, _, rfl⟩
end Go.Proofs.YtplpbbdakihnfaaGreat
end

/- The stable sort of regions by their numbers, walked (less than 20 of them). -/
section
namespace Go.Proofs.YtplpbbdakihnfaaGreat
open Go.RowKit
attribute [local go_sem ↓] Go.wp_at_zero Go.wp_at_succ
set_option linter.unusedSimpArgs false
set_option linter.unusedVariables false

abbrev tInt1 : TypeId := 3
abbrev tInts1 : TypeId := 66
def ints (l : List Nat) : List Value := l.map fun x : Nat => .int .i64 (x : Int)
theorem ints_length (l : List Nat) : (ints l).length = l.length := by simp [ints]
theorem ints_append (a b : List Nat) : ints (a ++ b) = ints a ++ ints b := by simp [ints]
theorem ints_get {l : List Nat} {i x : Nat} (h : l[i]? = some x) : (ints l)[i]? = some (.int .i64 (x : Int)) := by simp [ints, h]

theorem ints_set (l : List Nat) (i x : Nat) : ints (l.set i x) = (ints l).set i (.int .i64 (x : Int)) := by simp [ints, List.map_set]

/-- the row at an inner round's head: rest's reverse, x, what was moved, what is to come -/
def midRow (rest : List Nat) (x : Nat) (moved tail : List Nat) : List Nat := rest.reverse ++ x :: (moved.reverse ++ tail)
theorem insR_moved (f : Nat → Nat) (x : Nat) (moved rest : List Nat) (h : ∀ y ∈ moved, f x < f y) : insR f x (moved ++ rest) = moved ++ insR f x rest := by
  induction moved with
  | nil => rfl
  | cons y r ih =>
    rw [List.cons_append, insR, if_pos (h y List.mem_cons_self), ih (fun z hz => h z (List.mem_cons_of_mem _ hz))]; rfl
theorem mid_swap (rest : List Nat) (y x : Nat) (moved tail : List Nat) : ((midRow (y :: rest) x moved tail).set (rest.length + 1) y).set rest.length x = midRow rest x (moved ++ [y]) tail := by
  unfold midRow
  rw [List.reverse_cons, List.append_assoc]
  have e1 : rest.length + 1 = rest.reverse.length + 1 := by simp
  rw [e1, List.set_append_right _ _ (by omega), Nat.add_sub_cancel_left]
  rw [List.set_append_right _ _ (by simp)]
  simp
theorem cmpN_lt (a b : Nat) : cmpN a b < 0 ↔ a < b := by
  unfold cmpN
  split
  · simp; assumption
  · split <;> simp <;> omega

theorem row_get {w : World} {base e g cap n : Nat} {xs : List Value} (h : w.ownsRow base e 1 (.slice (some ⟨g, 0, none⟩) n cap) n xs) {j : Nat} {u : Value} (hu : xs[j]? = some u) : w.cell? ⟨g, j, none⟩ = some u := by
  obtain ⟨A, c, hA, _, hr⟩ := own_slice h
  injection hA with e1 e2 e3
  subst e1
  have := h.1
  obtain ⟨g', off, e4, _, hx⟩ := hr.at_ (j := j) (by have := (List.getElem?_eq_some_iff.1 hu).1; omega)
  simp only [Option.some.injEq, Addr.mk.injEq, and_true] at e4
  obtain ⟨rfl, rfl⟩ := e4
  simpa using hx j u hu

def insL (f : Nat → Nat) (l : List Nat) : List Nat := l.foldl (fun r x => insR f x r) []
theorem insL_snoc (f : Nat → Nat) (l : List Nat) (x : Nat) : insL f (l ++ [x]) = insR f x (insL f l) := by simp [insL, List.foldl_append]
theorem insR_length (f : Nat → Nat) (x : Nat) (l : List Nat) : (insR f x l).length = l.length + 1 := by
  induction l with
  | nil => rfl
  | cons y r ih => rw [insR]; split <;> simp [ih]
theorem insR_mem (f : Nat → Nat) (x z : Nat) (l : List Nat) : z ∈ insR f x l ↔ z = x ∨ z ∈ l := by
  induction l with
  | nil => simp [insR]
  | cons y r ih =>
    rw [insR]
    split
    · rw [List.mem_cons, ih, List.mem_cons]
      exact ⟨fun h => by rcases h with h | h | h <;> simp [h], fun h => by rcases h with h | h | h <;> simp [h]⟩
    · rw [List.mem_cons]
theorem insL_length (f : Nat → Nat) (l : List Nat) : (insL f l).length = l.length := by
  rw [← List.reverse_reverse l]
  generalize l.reverse = m
  induction m with
  | nil => rfl
  | cons x r ih => rw [List.reverse_cons, insL_snoc, insR_length, ih]; simp
theorem insL_mem (f : Nat → Nat) (z : Nat) (l : List Nat) : z ∈ insL f l ↔ z ∈ l := by
  rw [← List.reverse_reverse l]
  generalize l.reverse = m
  induction m with
  | nil => simp [insL]
  | cons x r ih => rw [List.reverse_cons, insL_snoc, insR_mem, ih, List.mem_append, List.mem_singleton]; exact ⟨fun h => h.symm, fun h => h.symm⟩

theorem insertion_small {w : World} (v F : Value) (n : Nat) (hn : n ≤ 1) :
    Calls Tryz.prog 128 #[v, .int .i64 0, .int .i64 n, F] w fun e w' => e = .returned (.tuple #[]) ∧ w = w' := by
  have h1 : ¬ (1 : Int) < (n : Int) := by omega
  clear hn
  go_enter Tryz.func128, Tryz.ntmps128
  go_wp2
  go_loopg [8] 0 (fun gk vi wr => vi = .int .i64 1 ∧ w = wr)
  case atStart => exact ⟨rfl, rfl⟩
  case round =>
    obtain ⟨rfl, rfl⟩ := hrel
    go_wp2
    go_end0
    exact ⟨rfl, rfl⟩

set_option maxHeartbeats 2000000 in
/-- data[0..n) is put in order -/
theorem insertion_calls {w : World} {h : DevH} {t : LgH} {G : Lg} (hl : LgAt w h t G) (B : Nat) (hB : Blk w B 82 #[.pointer (some ⟨t.L, 0, none⟩)]) (g cap base : Nat) (l : List Nat)
    (hown : w.ownsRow base tInt1 1 (.slice (some ⟨g, 0, none⟩) l.length cap) l.length (ints l)) (hgo : ¬ t.own g) (hlt : ∀ x ∈ l, x < G.regs.length) (hn : l.length ≤ 64) (h2 : 2 ≤ l.length) :
    Calls Tryz.prog 128 #[.slice (some ⟨g, 0, none⟩) l.length cap, .int .i64 0, .int .i64 l.length, .func (.func 102) #[] #[.pointer (some ⟨B, 0, none⟩)]] w
      fun e w' => e = .returned (.tuple #[]) ∧ w'.ownsRow base tInt1 1 (.slice (some ⟨g, 0, none⟩) l.length cap) l.length (ints (sortR (rnum G.regs) l)) ∧ Chg (fun k => k = g) w w' := by
  have hgB : B ≠ g := by
    rintro rfl
    exact own_other hown hB (by decide) (by simp [Value.ownBlock])
  have HC : ∀ W, Hid (Chg (fun k => k = g) w W → ∀ a b : Nat, a < G.regs.length → b < G.regs.length → Calls Tryz.prog 102 #[.int .i64 a, .int .i64 b, .pointer (some ⟨B, 0, none⟩)] W fun e w' => e = .returned (.int .i64 (cmpN (rnum G.regs a) (rnum G.regs b))) ∧ ∃ n, w' = W.drewN n) := fun W hc a b ha hb =>
    byCmp_calls (hl.chg hc (fun k hk e => hgo (by rw [← e]; exact hk))) B (hB.chg hc hgB) a b ha hb
  have HLT := Lib.hid hlt
  have HO := Lib.hid hown
  obtain ⟨f, hf⟩ : ∃ f, f = rnum G.regs := ⟨_, rfl⟩
  obtain ⟨nr, hnr⟩ : ∃ nr, nr = G.regs.length := ⟨_, rfl⟩
  simp only [← hf, ← hnr] at HC HLT ⊢
  obtain ⟨n, hnl⟩ : ∃ n, n = l.length := ⟨_, rfl⟩
  have HN : Hid (l.length = n) := hnl.symm
  rw [← hnl] at HO hn h2 ⊢
  clear hl hB hown hlt hgo hgB hf hnr hnl
  go_enter Tryz.func128, Tryz.ntmps128
  go_wp2
  go_loopg [8] n (fun gk vi wr => ∃ i : Nat, gk = n - i ∧ i + 1 ≤ n ∧ vi = .int .i64 ((i + 1 : Nat) : Int) ∧ Hid (wr.ownsRow base tInt1 1 (.slice (some ⟨g, 0, none⟩) n cap) n (ints ((insL f (l.take (i + 1))).reverse ++ l.drop (i + 1))) ∧ Chg (fun k => k = g) w wr))
  case atStart =>
    refine ⟨0, rfl, by omega, rfl, ?_, Chg.refl _ _⟩
    have e : (insL f (l.take (0 + 1))).reverse ++ l.drop (0 + 1) = l := by
      cases l with
      | nil => rfl
      | cons x r => simp [insL, insR]
    rw [e]; exact HO.out
  case round =>
    obtain ⟨i, rfl, hi, rfl, H⟩ := hrel
    by_cases hlast : i + 1 < n
    · obtain ⟨wo, rfl⟩ : ∃ wo : World, wo = wr := ⟨_, rfl⟩
      obtain ⟨x, hx⟩ : ∃ x, l[i + 1]? = some x := ⟨_, List.getElem?_eq_getElem (by rw [HN.out]; exact hlast)⟩
      have hxr : x < nr := HLT.out x (List.mem_of_getElem? hx)
      have hdrop : l.drop (i + 1) = x :: l.drop (i + 2) := by
        rw [List.drop_eq_getElem_cons (by rw [HN.out]; exact hlast)]
        congr 1
        exact (List.getElem?_eq_some_iff.1 hx).2
      have HR : Hid (wo.ownsRow base tInt1 1 (.slice (some ⟨g, 0, none⟩) n cap) n (ints (midRow (insL f (l.take (i + 1))) x [] (l.drop (i + 2)))) ∧ Chg (fun k => k = g) w wo) := by
        refine ⟨?_, H.out.2⟩
        have := H.out.1
        rw [hdrop] at this
        exact this
      have HE : Hid (insL f (l.take (i + 1 + 1)) = insR f x (insL f (l.take (i + 1)))) := by
        show _ = _
        rw [List.take_add_one (i := i + 1), hx, Option.toList, insL_snoc]
      have HL : Hid ((insL f (l.take (i + 1))).length = i + 1) := by
        show _ = _
        rw [insL_length, List.length_take, HN.out]; omega
      have HM : Hid (∀ y ∈ insL f (l.take (i + 1)), y < nr) := fun y hy => HLT.out y (List.mem_of_mem_take ((insL_mem f y _).1 hy))
      have hli : ((i + 1 : Nat) : Int) < (n : Int) := by omega
      clear H hx hdrop
      go_wp2
      go_loopg [9] (i + 1) (fun gj vj wz => ∃ rest moved : List Nat, gj = rest.length ∧ rest.length ≤ i + 1 ∧ vj = .int .i64 (rest.length : Int) ∧ Hid (wz.ownsRow base tInt1 1 (.slice (some ⟨g, 0, none⟩) n cap) n (ints (midRow rest x moved (l.drop (i + 2)))) ∧ Chg (fun k => k = g) w wz ∧ insR f x (insL f (l.take (i + 1))) = moved ++ insR f x rest ∧ ∀ y ∈ rest, y < nr))
      case atStart => exact ⟨insL f (l.take (i + 1)), [], HL.out.symm, by rw [HL.out]; exact Nat.le_refl _, by rw [HL.out], HR.out.1, HR.out.2, rfl, HM.out⟩
      case round =>
        obtain ⟨rest, moved, rfl, hrl, rfl, K⟩ := hrel
        cases rest with
        | nil =>
          have HEND : Hid (wr.ownsRow base tInt1 1 (.slice (some ⟨g, 0, none⟩) n cap) n (ints ((insL f (l.take (i + 1 + 1))).reverse ++ l.drop (i + 1 + 1))) ∧ Chg (fun k => k = g) w wr) := by
            refine ⟨?_, K.out.2.1⟩
            have h1 := K.out.1
            have h2 := K.out.2.2.1
            rw [HE.out, h2]
            simpa [midRow, insR] using h1
          have b0 : decide ((0 : Int) < 0) = false := rfl
          simp only [List.length_nil]
          go_wp2_with fail
          go_quiet (fail)
          go_wp2
          go_roundg (n - (i + 1))
          case measure => omega
          case rel => exact ⟨i + 1, rfl, by omega, by go_num, HEND.out.1, HEND.out.2.drewN _⟩
        | cons y r =>
          have hyr : y < nr := K.out.2.2.2 y List.mem_cons_self
          have hrr : r.length + 1 ≤ i + 1 := by simpa using hrl
          have HLM : Hid ((midRow (y :: r) x moved (l.drop (i + 2)))[r.length]? = some y ∧ (midRow (y :: r) x moved (l.drop (i + 2)))[r.length + 1]? = some x) := by
            unfold midRow
            rw [List.reverse_cons, List.append_assoc]
            constructor
            · rw [List.getElem?_append_right (by simp)]; simp
            · rw [List.getElem?_append_right (by simp)]; simp
          have cy := row_get K.out.1 (ints_get HLM.out.1)
          have cx := row_get K.out.1 (ints_get HLM.out.2)
          have HC1 := fun W => Lib.hid (fun hc : Chg (fun k => k = g) w W => (HC W).out hc x y hxr hyr)
          have hcl := cmpN_lt (f x) (f y)
          obtain ⟨cc, hcc⟩ : ∃ cc, cc = cmpN (f x) (f y) := ⟨_, rfl⟩
          rw [← hcc] at HC1 hcl
          obtain ⟨m, hm⟩ : ∃ m, r.length = m := ⟨_, rfl⟩
          rw [List.length_cons, hm]
          rw [hm] at cy cx hrr
          have hmi : (m : Int) < (n : Int) := by omega
          have hmi1 : ((m + 1 : Nat) : Int) < (n : Int) := by omega
          have hsub : IntKind.i64.wrap (((m + 1 : Nat) : Int) - 1) = (m : Int) := by rw [IntWalk.i64_in _ (by omega)]; omega
          have b0 : decide ((0 : Int) < ((m + 1 : Nat) : Int)) = true := by simp only [decide_eq_true_eq]; omega
          have HMM := Lib.hid hm
          have HCL := Lib.hid hcl
          clear HLM hcc hm hcl
          by_cases hlt : f x < f y
          · have hc0 : decide (cc < 0) = true := by simpa using HCL.out.2 hlt
            go_wp2_with fail
            go_quiet ((go_at_call 102; exact (Calls.quiet_of ((HC1 _).out (K.out.2.1.drewN _)))))
            have fm := K.out.1.frozenAt m
            have fm1 := K.out.1.frozenAt (m + 1)
            go_wp2_with fail
            go_region
            all_goals
              go_wp2
              go_roundg m
              case measure => have := HMM.out; simp only [List.length_cons]; omega
              case rel =>
                refine ⟨r, moved ++ [y], HMM.out.symm, by rw [HMM.out]; omega, by rw [HMM.out], ?_, ?_, ?_, ?_⟩
                · have e := mid_swap r y x moved (l.drop (i + 2))
                  rw [HMM.out] at e
                  rw [← e, ints_set, ints_set]
                  exact (((own_chg K.out.1 ((Chg.refl No wr).drewN _) (fun _ _ h => h)).stored (m + 1) (.int .i64 (y : Int))).1.stored m (.int .i64 (x : Int))).1
                · exact ((K.out.2.1.drewN _).setCell (.inl rfl) _).setCell (.inl rfl) _
                · rw [K.out.2.2.1, insR, if_pos hlt, List.append_assoc]; rfl
                · exact fun z hz => K.out.2.2.2 z (List.mem_cons_of_mem _ hz)
          · have hc0 : decide (cc < 0) = false := decide_eq_false (fun h => hlt (HCL.out.1 h))
            have HEND : Hid (wr.ownsRow base tInt1 1 (.slice (some ⟨g, 0, none⟩) n cap) n (ints ((insL f (l.take (i + 1 + 1))).reverse ++ l.drop (i + 1 + 1))) ∧ Chg (fun k => k = g) w wr) := by
              refine ⟨?_, K.out.2.1⟩
              have h1 := K.out.1
              have h2 := K.out.2.2.1
              rw [HE.out, h2, insR, if_neg hlt]
              simpa [midRow] using h1
            go_wp2_with fail
            go_quiet ((go_at_call 102; exact (Calls.quiet_of ((HC1 _).out (K.out.2.1.drewN _)))))
            go_wp2
            go_roundg (n - (i + 1))
            case measure => omega
            case rel => exact ⟨i + 1, rfl, by omega, by go_num, HEND.out.1, HEND.out.2.drewN _⟩
    · obtain rfl : n = i + 1 := by omega
      have HEND : Hid (wr.ownsRow base tInt1 1 (.slice (some ⟨g, 0, none⟩) (i + 1) cap) (i + 1) (ints (sortR f l)) ∧ Chg (fun k => k = g) w wr) := by
        refine ⟨?_, H.out.2⟩
        have := H.out.1
        rw [List.take_of_length_le (by rw [HN.out]; exact Nat.le_refl _), List.drop_of_length_le (by rw [HN.out]; exact Nat.le_refl _), List.append_nil] at this
        exact this
      clear hlast
      go_wp2
      go_end0
      exact ⟨rfl, HEND.out⟩

/-- stableCmpFunc over less than 20 -/
theorem stable_calls {w : World} {h : DevH} {t : LgH} {G : Lg} (hl : LgAt w h t G) (B : Nat) (hB : Blk w B 82 #[.pointer (some ⟨t.L, 0, none⟩)]) (base : Nat) (v : Value) (l : List Nat)
    (hown : w.ownsRow base tInt1 1 v l.length (ints l)) (hgo : ∀ k, v.ownBlock = some k → ¬ t.own k) (hlt : ∀ x ∈ l, x < G.regs.length) (hn : l.length < 20) :
    Calls Tryz.prog 101 #[v, .func (.func 102) #[] #[.pointer (some ⟨B, 0, none⟩)]] w
      fun e w' => e = .returned (.tuple #[]) ∧ w'.ownsRow base tInt1 1 v l.length (ints (sortR (rnum G.regs) l)) ∧ Chg (rowOf v) w w' := by
  have HI : Hid (∀ (A : Option Addr) (c : Nat), v = .slice A l.length c → Calls Tryz.prog 128 #[.slice A l.length c, .int .i64 0, .int .i64 l.length, .func (.func 102) #[] #[.pointer (some ⟨B, 0, none⟩)]] w
      fun e w' => e = .returned (.tuple #[]) ∧ w'.ownsRow base tInt1 1 v l.length (ints (sortR (rnum G.regs) l)) ∧ Chg (rowOf v) w w') := by
    intro A c hv
    by_cases h2 : 2 ≤ l.length
    · rcases hown.2 with ⟨h0, h1⟩ | ⟨g, cap, cur, h0, _⟩
      · have := hown.1; rw [h1] at this; simp [ints] at this; omega
      · subst hv
        injection h0 with e1 e2 e3
        subst e1
        refine (insertion_calls hl B hB g c base l hown (hgo g (by simp [Value.ownBlock])) hlt (by omega) h2).mono ?_
        rintro e w' ⟨he, ho, hc⟩
        exact ⟨he, ho, hc.mono (fun k _ hk => by unfold rowOf; rw [hk]; simp [Value.ownBlock])⟩
    · refine (insertion_small (w := w) _ _ l.length (by omega)).mono ?_
      rintro e w' ⟨he, rfl⟩
      refine ⟨he, ?_, Chg.refl _ _⟩
      have : sortR (rnum G.regs) l = l := by
        match l, h2 with
        | [], _ => rfl
        | [x], _ => rfl
        | _ :: _ :: _, h2 => simp at h2
      rw [this]; exact hown
  obtain ⟨A, c, hv, hnc, _⟩ := own_slice hown
  have hI := HI.out A c hv
  have HI2 := Lib.hid hI
  have HV := Lib.hid hv
  obtain ⟨n, hnl⟩ : ∃ n, n = l.length := ⟨_, rfl⟩
  rw [← hnl] at HI2 HV hn ⊢
  obtain rfl := HV.out
  have h20 : ¬ (20 : Int) ≤ (n : Int) := by omega
  have h20' : ¬ (20 : Int) < (n : Int) := by omega
  clear hl hB hown hgo hlt HI hv hI HV hnl hnc
  have HS : Hid (Calls Tryz.prog 119 #[.slice A n c, .int .i64 n, .func (.func 102) #[] #[.pointer (some ⟨B, 0, none⟩)]] w
      fun e w' => e = .returned (.tuple #[]) ∧ w'.ownsRow base tInt1 1 (.slice A n c) n (ints (sortR (rnum G.regs) l)) ∧ Chg (rowOf (.slice A n c)) w w') := by
    go_enter Tryz.func119, Tryz.ntmps119
    go_wp2
    go_loopg [7, 8] 0 (fun gk va vb wr => va = .int .i64 0 ∧ vb = .int .i64 20 ∧ w = wr)
    case atStart => exact ⟨rfl, rfl, rfl⟩
    case round =>
      obtain ⟨rfl, rfl, rfl⟩ := hrel
      go_wp2_with fail
      refine HI2.out.mono ?_
      rintro e w1 ⟨rfl, ho1, hc1⟩
      have HO1 := Lib.hid (And.intro ho1 hc1)
      clear ho1 hc1
      go_wp2
      go_loopg [6] 0 (fun gk va wr => va = .int .i64 20 ∧ w1 = wr)
      case atStart => exact ⟨rfl, rfl⟩
      case round =>
        obtain ⟨rfl, rfl⟩ := hrel
        go_wp2
        go_end0
        exact ⟨rfl, HO1.out⟩
  clear HI2
  go_enter Tryz.func101, Tryz.ntmps101
  go_wp2_with fail
  refine HS.out.mono ?_
  rintro e w1 ⟨rfl, ho1, hc1⟩
  have HO1 := Lib.hid (And.intro ho1 hc1)
  clear ho1 hc1
  go_wp2
  go_end0
  exact ⟨rfl, HO1.out⟩
end Go.Proofs.YtplpbbdakihnfaaGreat
end

/- region's byNumber, done, has, item, Get, May, Drop, Number, walked. -/
section
namespace Go.Proofs.YtplpbbdakihnfaaGreat
open Go.RowKit
attribute [local go_sem ↓] Go.wp_at_zero Go.wp_at_succ
set_option linter.unusedSimpArgs false
set_option linter.unusedVariables false

theorem ti_int : TI Tryz.prog tInt1 (.int .i64 0) 1 8 := (by kernel_rfl : (Tryz.prog.info? tInt1).map (fun i => (i.zero, i.size, i.bytes)) = some (some (.int .i64 0), 1, 8))

theorem rd_one2 (w : World) (o : Obj) (t : TypeId) (u : Value) : Rd ((w.alloc o).alloc (.cells #[u] t)) t (some ⟨w.heap.size + 1, 0, none⟩) (1 * 1) [u] := by
  have := rd_one (w.alloc o) t u
  rwa [World.size_alloc] at this
theorem counts_succ (regs : List Sealed) (k : Nat) : ((List.range (k + 1)).filter fun i => decide (0 < rnum regs i)) = ((List.range k).filter fun i => decide (0 < rnum regs i)) ++ (if 0 < rnum regs k then [k] else []) := by
  rw [List.range_succ, List.filter_append]
  congr 1
  simp only [List.filter_cons, List.filter_nil, decide_eq_true_eq]
theorem counts_mem {regs : List Sealed} {k i : Nat} (h : i ∈ (List.range k).filter fun i => decide (0 < rnum regs i)) : i < k := by
  have := (List.mem_filter.1 h).1
  exact List.mem_range.1 this
theorem counts_len (regs : List Sealed) (k : Nat) : ((List.range k).filter fun i => decide (0 < rnum regs i)).length ≤ k := by
  have := List.length_filter_le (fun i => decide (0 < rnum regs i)) (List.range k)
  simpa using this

set_option maxHeartbeats 2000000 in
theorem byNumber_calls {w : World} {h : DevH} {t : LgH} {G : Lg} (hl : LgAt w h t G) (h20 : G.regs.length < 20) :
    Calls Tryz.prog 70 #[.pointer (some ⟨t.L, 0, none⟩)] w fun e w' => ∃ v, e = .returned v ∧ w'.ownsRow w.heap.size tInt1 1 v (byNum G.regs).length (ints (byNum G.regs)) ∧ Chg No w w' := by
  obtain ⟨ses, hn, ho, hs⟩ := hl.regs
  obtain ⟨A, c, hR, hnc, hrd⟩ := own_slice ho
  have c3 := hl.box.cell 3
  simp at c3
  rw [hR] at c3
  have hpos := hl.ok.pos
  obtain ⟨g, off, rfl, hg, hx⟩ := hrd.at_ (j := 0) (by omega)
  have HX : Hid (∀ k, k < G.regs.length → ∃ Av lv cv, w.cell? ⟨g, off + k * 2, none⟩ = some (.int .u64 (rnum G.regs k : Nat)) ∧ w.cell? ⟨g, off + (k * 2 + 1), none⟩ = some (.slice Av lv cv)) := by
    intro k hk
    obtain ⟨v, hv, Av, cv, rfl, _⟩ := hs k _ (List.getElem?_eq_getElem hk)
    have e : rnum G.regs k = (G.regs[k]).num := by unfold rnum; rw [List.getD_eq_getElem?_getD, List.getElem?_eq_getElem hk]; rfl
    have h1 := hx (k * 2) _ (secs_get ses k _ hv).1
    have h2 := hx (k * 2 + 1) _ (secs_get ses k _ hv).2
    rw [← e] at h1
    exact ⟨_, _, _, h1, h2⟩
  have HL := Lib.hid hl
  have HB : Hid (byNum G.regs = sortR (rnum G.regs) (counts G.regs)) := rfl
  have hll : t.L < w.heap.size := hl.lt _ hl.ownL
  obtain ⟨n, hnn⟩ : ∃ n, G.regs.length = n := ⟨_, rfl⟩
  rw [hnn] at c3 hpos h20 HX
  have HCN : Hid (counts G.regs = (List.range n).filter fun i => decide (0 < rnum G.regs i)) := by show _ = _; unfold counts; rw [hnn]
  have HNN := Lib.hid hnn
  clear hl hn ho hs hR hrd hx hnn
  go_enter Tryz.func70, Tryz.ntmps70
  go_wp2
  go_loopg [3, 11] n (fun gk vv vi wr => ∃ (k : Nat) (v3 : Value), v3 = vv ∧ gk = n - k ∧ k ≤ n ∧ vi = .int .i64 k ∧ Hid (wr.ownsRow (w.heap.size + 1) tInt1 1 v3 ((List.range k).filter fun i => decide (0 < rnum G.regs i)).length (ints ((List.range k).filter fun i => decide (0 < rnum G.regs i))) ∧ Chg No w wr ∧ Blk wr w.heap.size 82 #[.pointer (some ⟨t.L, 0, none⟩)]))
  case atStart => exact ⟨0, _, rfl, rfl, Nat.zero_le _, rfl, by simpa [ints] using World.ownsRow_nil _ _ _ _, by (repeat (first | (with_reducible exact Chg.refl _ _) | (with_reducible assumption) | (with_reducible refine Chg.drewN ?_ _) | (with_reducible refine Chg.drew ?_) | (with_reducible refine Chg.alloc ?_ _) | (with_reducible refine Chg.setCell ?_ (by first | (left; simp [DevH.foot]; done) | (right; simp; done) | (right; simp; omega)) _))), Blk.new _ _ _⟩
  case round =>
    obtain ⟨k, v3, rfl, rfl, hk, rfl, H⟩ := hrel
    by_cases hlt : k < n
    · obtain ⟨Av, lv, cv, q0, q1⟩ := HX.out k hlt
      have hgl : g < w.heap.size := hg
      have c0 : wr.cell? ⟨g, off + k * 2, none⟩ = some (.int .u64 (rnum G.regs k : Nat)) := by
        rw [← q0]; exact H.out.2.1.toBelow.cell (p := ⟨g, off + k * 2, none⟩) hgl
      have c1 : wr.cell? ⟨g, off + k * 2 + 1, none⟩ = some (.slice Av lv cv) := by
        rw [Nat.add_assoc, ← q1]; exact H.out.2.1.toBelow.cell (p := ⟨g, off + (k * 2 + 1), none⟩) hgl
      have hcs := counts_succ G.regs k
      have hcl := counts_len G.regs k
      obtain ⟨m, hm⟩ : ∃ m, m = rnum G.regs k := ⟨_, rfl⟩
      obtain ⟨cs, hcc⟩ : ∃ cs, cs = (List.range k).filter fun i => decide (0 < rnum G.regs i) := ⟨_, rfl⟩
      rw [← hm] at c0 hcs
      rw [← hcc] at hcs hcl
      have HO : Hid (wr.ownsRow (w.heap.size + 1) tInt1 1 v3 cs.length (ints cs)) := by rw [hcc]; exact H.out.1
      have HCS := Lib.hid hcs
      have hki : (k : Int) < (n : Int) := by omega
      have hsz : w.heap.size + 1 ≤ wr.heap.size := H.out.2.2.lt
      clear hm hcc hcs q0 q1
      by_cases h0 : 0 < m
      · have h0i : (0 : Int) < (m : Int) := by omega
        have HC2 : Hid (((List.range (k + 1)).filter fun i => decide (0 < rnum G.regs i)) = cs ++ [k]) := by show _ = _; rw [HCS.out, if_pos h0]
        clear h0
        go_wp2_with (first
          | (at_builtin; go_loud (refine wpList_app _ rfl (.tmp 19) (.tmp 21) tInts1 rfl tInt1 Tryz.underlying66 ti_int rfl (by omega) (w.heap.size + 1) _ cs.length (ints cs) rfl ((HO.out.alloc _).alloc _) tInt1 _ 1 1 [.int .i64 (k : Int)] rfl (rd_one2 _ _ _ _) (by simp [Value.oneCell']) (by simp only [maxLen]; omega) (by omega) (by simp; omega) ?_); intro v2 w2 ho2 hg2 hb2; have HO2 := Lib.hid ho2; have HG2 := Lib.hid hg2; clear ho2 hg2 hb2))
        go_roundg (n - (k + 1))
        case measure => omega
        case rel =>
          refine ⟨k + 1, _, rfl, rfl, by omega, by go_num, ?_, ?_, ?_⟩
          · rw [HC2.out, ints_append, List.length_append]; exact HO2.out
          · exact ((H.out.2.1.alloc _).alloc _).grown HG2.out (fun j hj => .inr (by have := own_new HO.out j hj; omega))
          · refine Blk.chg ((H.out.2.2.alloc _).alloc _) (Chg.grown (Chg.refl (fun i => Value.ownBlock _ = some i) _) HG2.out (fun j hj => .inl hj)) (fun hj => by have := own_new HO.out _ hj; omega)
      · obtain rfl : m = 0 := by omega
        have HC2 : Hid (((List.range (k + 1)).filter fun i => decide (0 < rnum G.regs i)) = cs) := by show _ = _; rw [HCS.out, if_neg h0, List.append_nil]
        clear h0
        go_wp2
        go_roundg (n - (k + 1))
        case measure => omega
        case rel =>
          refine ⟨k + 1, _, rfl, rfl, by omega, by go_num, ?_, ?_, ?_⟩
          · rw [HC2.out]; exact HO.out.alloc _
          · exact H.out.2.1.alloc _
          · exact H.out.2.2.alloc _
    · obtain rfl : k = n := by omega
      have HO : Hid (wr.ownsRow (w.heap.size + 1) tInt1 1 v3 (counts G.regs).length (ints (counts G.regs))) := by rw [HCN.out]; exact H.out.1
      have HS := Lib.hid (stable_calls (HL.out.chgNo H.out.2.1) w.heap.size H.out.2.2 (w.heap.size + 1) v3 (counts G.regs) HO.out (fun j hj ho => by have h1 := own_new HO.out j hj; have h2 := HL.out.lt j ho; omega) (fun x hx => by rw [HCN.out] at hx; rw [HNN.out]; exact counts_mem hx) (by rw [HCN.out]; have := counts_len G.regs k; omega))
      have hlen : (sortR (rnum G.regs) (counts G.regs)).length = (counts G.regs).length := by unfold sortR; rw [List.length_reverse]; exact insL_length _ _
      have HLEN := Lib.hid hlen
      clear hlt hlen
      go_wp2_with fail
      refine HS.out.mono ?_
      rintro e w2 ⟨rfl, ho2, hc2⟩
      have HH := Lib.hid (And.intro ho2 hc2)
      clear ho2 hc2
      go_wp2
      go_ret
      refine ⟨_, rfl, ?_, ?_⟩
      · rw [HB.out, HLEN.out]
        exact own_base HH.out.1 (by omega)
      · refine H.out.2.1.then HH.out.2 (fun i hi hT => ?_)
        have := own_new HO.out i hT
        omega
end Go.Proofs.YtplpbbdakihnfaaGreat
end

/- region's done, has, item, Get, May, Drop, Number, walked. -/
section
namespace Go.Proofs.YtplpbbdakihnfaaGreat
open Go.RowKit
attribute [local go_sem ↓] Go.wp_at_zero Go.wp_at_succ
set_option linter.unusedSimpArgs false
set_option linter.unusedVariables false

def Pl.zero : Pl := ⟨false, 0, 0⟩
theorem zero_pl (w : World) : (zeroValue tPlace).run Tryz.prog w = .ok (plv .zero) w := by kernel_rfl
def Lg.pl (G : Lg) (key : ByteArray) : Pl := (aget G.keys key).getD .zero

section
variable {w : World} {h : DevH} {t : LgH} {G : Lg}
/-- 'l.keys[key]' -/
theorem LgAt.look (hl : LgAt w h t G) (key : ByteArray) (ok : Bool) : (Instr.lookup tKeys (.map (some t.M)) (.string key) ok).run Tryz.prog w = .ok (if ok then .tuple #[plv (G.pl key), .bool (G.has key)] else plv (G.pl key)) w := by
  have e := hl.map.lookup (keyLaw_string (Tryz.underlying9)) Tryz.underlying128 (zero_pl w) key ok
  rw [e, aget_amap]
  unfold Lg.pl Lg.has
  cases aget G.keys key <;> rfl

theorem done_calls {N : Nat} {D : Dev} (hd : DevN N w h D) (hl : LgAt w h t G) :
    Calls Tryz.prog 86 #[.pointer (some ⟨t.L, 0, none⟩)] w fun e w' => e = .returned (.bool (decide (G.losses ≠ D.losses))) ∧ ∃ n, w' = w.drewN n := by
  have HL := fun n => Lib.hid (losses_calls (w := w.drewN n) (hd.chgNo ((Chg.refl No w).drewN n)))
  have c0 := hl.box.cell 0
  have c1 := hl.box.cell 1
  simp at c0 c1
  obtain ⟨a, ha⟩ : ∃ a, a = G.losses := ⟨_, rfl⟩
  obtain ⟨b, hb⟩ : ∃ b, b = D.losses := ⟨_, rfl⟩
  rw [← ha] at c1 ⊢
  rw [← hb] at HL ⊢
  clear hd hl ha hb
  go_enter Tryz.func86, Tryz.ntmps86
  go_wp2_with fail
  go_quiet ((go_at_call 35; exact quiet_left (HL _).out))
  go_wp2
  go_ret
  refine ⟨?_, _, rfl⟩
  congr 2
  by_cases h : a = b <;> simp [h]

theorem has_key {key : ByteArray} (hl : LgAt w h t G) :
    Calls Tryz.prog 84 #[.pointer (some ⟨t.L, 0, none⟩), .string key] w fun e w' => e = .returned (.bool (G.has key)) ∧ Chg No w w' := by
  have hk := hl.look key true
  have c7 := hl.box.cell 7
  simp at c7
  simp only [if_true, plv] at hk
  obtain ⟨b, hb⟩ : ∃ b, b = G.has key := ⟨_, rfl⟩
  obtain ⟨p, hp⟩ : ∃ p, p = G.pl key := ⟨_, rfl⟩
  rw [← hb, ← hp] at hk
  rw [← hb]
  clear hl hb hp
  go_enter Tryz.func84, Tryz.ntmps84
  go_wp2
  go_ret
  exact ⟨rfl, by (repeat (first | (with_reducible exact Chg.refl _ _) | (with_reducible assumption) | (with_reducible refine Chg.drewN ?_ _) | (with_reducible refine Chg.drew ?_) | (with_reducible refine Chg.alloc ?_ _) | (with_reducible refine Chg.setCell ?_ (by first | (left; simp [DevH.foot]; done) | (right; simp; done) | (right; simp; omega)) _)))⟩

theorem may_key {key : ByteArray} (hl : LgAt w h t G) :
    Calls Tryz.prog 55 #[.pointer (some ⟨t.L, 0, none⟩), .string key] w fun e w' => e = .returned (.bool (G.has key)) ∧ Chg No w w' := by
  have HH := Lib.hid (has_key (key := key) hl)
  clear hl
  go_enter Tryz.func55, Tryz.ntmps55
  go_wp2_with fail
  refine HH.out.mono ?_
  rintro e w1 ⟨rfl, hc1⟩
  have HC := Lib.hid hc1
  clear hc1
  go_wp2
  go_ret
  exact ⟨rfl, HC.out⟩

/-- the map's block is changed, and tells another list of keys -/
theorem LgAt.rekey {w' : World} {ks : Keys} (hl : LgAt w h t G) (hc : Chg (fun k => k = t.M) w w') (hm : MapIs skey w' t.M (amap plv ks)) (ok : ({ G with keys := ks } : Lg).Ok) : LgAt w' h t { G with keys := ks } := by
  have hL : ¬ t.L = t.M := fun e => hl.map.ne_blk hl.box e.symm
  have hcl : ∀ {g T cs fz}, w.heap[g]? = some (.cells cs T fz) → ¬ g = t.M := fun hg e => hl.map.ne_blk hg e.symm
  have hown : ∀ {v : Value} {base e size n : Nat} {xs : List Value}, w.ownsRow base e size v n xs → w'.ownsRow base e size v n xs := by
    intro v base e size n xs ho
    refine own_chg ho hc (fun k hk => ?_)
    rcases ho.2 with ⟨e1, _⟩ | ⟨g, cap, cur, e1, _, hg, _⟩
    · rw [e1] at hk; simp [Value.ownBlock] at hk
    · rw [e1] at hk
      have : g = k := by simpa [Value.ownBlock] using hk
      subst this
      exact hcl hg
  exact { hl with
    box := hl.box.chg hc hL
    regs := by
      obtain ⟨ses, h1, h2, h3⟩ := hl.regs
      refine ⟨ses, h1, hown h2, fun i S hS => ?_⟩
      obtain ⟨v, e, A, c, h4, h5, h6, h7⟩ := h3 i S hS
      exact ⟨v, e, A, c, h4, h5, h6.chg hc (fun g cur fz hg => hcl hg), h7⟩
    opn := hown hl.opn
    map := hm
    lt := fun k hk => Nat.lt_of_lt_of_le (hl.lt k hk) hc.size
    ok := ok }

theorem Lg.Ok.drop {G : Lg} (ho : G.Ok) (hn : (akeys G.keys).Nodup) (key : ByteArray) : (G.drop key).Ok :=
  { ho with
    keys := by
      intro k p hp
      have h : aget (adel G.keys key) k = some p := hp
      rw [aget_adel _ hn] at h
      split at h
      · cases h
      · exact ho.keys k p h }

theorem gdrop_calls (hl : LgAt w h t G) (key : ByteArray) :
    Calls Tryz.prog 44 #[.pointer (some ⟨t.L, 0, none⟩), .string key] w fun e w' => e = .returned (.tuple #[]) ∧ LgAt w' h t (G.drop key) ∧ Chg (fun k => k = t.M) w w' := by
  have c7 := hl.box.cell 7
  simp at c7
  obtain ⟨o, hrun, hm⟩ := hl.map.delete (P := Tryz.prog) (ty := 0) (kt' := 9) (keyLaw_string (Tryz.underlying9)) Tryz.underlying128 key
  rw [adel_amap] at hm
  have hc := chg_setBlock w t.M o
  have hg := hl.rekey hc hm (hl.ok.drop hl.nodup key)
  have HG := Lib.hid (And.intro hg hc)
  clear hl hm hc hg
  go_enter Tryz.func44, Tryz.ntmps44
  go_wp2
  go_end0
  exact ⟨rfl, HG.out⟩

/-- an item's cells -/
theorem SlAt.item {v : Value} {l : List Item} {ix : Nat} {x : Item} (hs : SlAt w t v l) (hx : l[ix]? = some x) :
    ∃ g off c, v = .slice (some ⟨g, off, none⟩) l.length c ∧ g < w.heap.size ∧ w.cell? ⟨g, off + ix * 5, none⟩ = some (.string x.key) ∧ w.cell? ⟨g, off + ix * 5 + 1, none⟩ = some (.string x.val) ∧ w.cell? ⟨g, off + ix * 5 + 2, none⟩ = some (.int .u32 x.flags.toNat) ∧
      w.cell? ⟨g, off + ix * 5 + 3, none⟩ = some (.int .i64 x.exp.toInt) ∧ w.cell? ⟨g, off + ix * 5 + 4, none⟩ = some (.int .u64 x.ver.toNat) := by
  obtain ⟨A, c, rfl, h1, h2, _⟩ := hs
  have hlt : ix < l.length := (List.getElem?_eq_some_iff.1 hx).1
  obtain ⟨g, off, rfl, hg, hc⟩ := h2.at_ (j := ix * 5) (by omega)
  have c0 := hc (ix * 5 + 0) _ (its_get l ix 0 x hx (by omega))
  have c1 := hc (ix * 5 + 1) _ (its_get l ix 1 x hx (by omega))
  have c2 := hc (ix * 5 + 2) _ (its_get l ix 2 x hx (by omega))
  have c3 := hc (ix * 5 + 3) _ (its_get l ix 3 x hx (by omega))
  have c4 := hc (ix * 5 + 4) _ (its_get l ix 4 x hx (by omega))
  simp only [itc, List.getElem_cons_zero, List.getElem_cons_succ, ← Nat.add_assoc, Nat.add_zero] at c0 c1 c2 c3 c4
  exact ⟨g, off, c, rfl, hg, c0, c1, c2, c3, c4⟩
theorem LgAt.openAs (hl : LgAt w h t G) : ∃ A c, t.O = .slice A G.opn.length c ∧ G.opn.length ≤ c ∧ Rd w tItem A (G.opn.length * 5) (its G.opn) := own_slice hl.opn
theorem LgAt.openItem (hl : LgAt w h t G) {ix : Nat} {x : Item} (hx : G.opn[ix]? = some x) :
    ∃ g off c, t.O = .slice (some ⟨g, off, none⟩) G.opn.length c ∧ g < w.heap.size ∧ w.cell? ⟨g, off + ix * 5, none⟩ = some (.string x.key) ∧ w.cell? ⟨g, off + ix * 5 + 1, none⟩ = some (.string x.val) ∧ w.cell? ⟨g, off + ix * 5 + 2, none⟩ = some (.int .u32 x.flags.toNat) ∧
      w.cell? ⟨g, off + ix * 5 + 3, none⟩ = some (.int .i64 x.exp.toInt) ∧ w.cell? ⟨g, off + ix * 5 + 4, none⟩ = some (.int .u64 x.ver.toNat) := by
  obtain ⟨A, c, hO, hnc, hr⟩ := hl.openAs
  rw [hO]
  exact SlAt.item (t := ⟨0, 0, .slice none 0 0, .slice none 0 0, fun _ => True⟩) ⟨A, c, rfl, hnc, hr, fun _ _ _ _ => ⟨trivial, by simp [Value.ownBlock]⟩⟩ hx
/-- regions' row as the walk reads it -/
theorem LgAt.row (hl : LgAt w h t G) : ∃ g off c, t.R = .slice (some ⟨g, off, none⟩) G.regs.length c ∧ g < w.heap.size ∧ ∀ (i : Nat) (S : Sealed), G.regs[i]? = some S → ∃ v, w.cell? ⟨g, off + i * 2, none⟩ = some (.int .u64 S.num) ∧ w.cell? ⟨g, off + i * 2 + 1, none⟩ = some v ∧ SlAt w t v S.l := by
  obtain ⟨ses, hn, ho, hs⟩ := hl.regs
  obtain ⟨A, c, hR, hnc, hrd⟩ := own_slice ho
  have hpos := hl.ok.pos
  obtain ⟨g, off, rfl, hg, hx⟩ := hrd.at_ (j := 0) (by omega)
  refine ⟨g, off, c, hR, hg, fun i S hS => ?_⟩
  obtain ⟨v, hv, hsl⟩ := hs i S hS
  exact ⟨v, hx (i * 2) _ (secs_get ses i _ hv).1, hx (i * 2 + 1) _ (secs_get ses i _ hv).2, hsl⟩

set_option maxRecDepth 100000 in
set_option maxHeartbeats 2000000 in
theorem item_open (hl : LgAt w h t G) (ix : Nat) (x : Item) (hx : G.opn[ix]? = some x) :
    Calls Tryz.prog 77 #[.pointer (some ⟨t.L, 0, none⟩), plv ⟨true, 0, ix⟩] w fun e w' => e = .returned (itemV x) ∧ Chg No w w' := by
  obtain ⟨g, off, c, hO, hg, c0, c1, c2, c3, c4⟩ := hl.openItem hx
  have d4 := hl.box.cell 4
  simp at d4
  rw [hO] at d4
  have hlt : ix < G.opn.length := (List.getElem?_eq_some_iff.1 hx).1
  have hmax := hl.ok.len
  have hll := hl.lt _ hl.ownL
  obtain ⟨n, hn⟩ : ∃ n, n = G.opn.length := ⟨_, rfl⟩
  rw [← hn] at d4 hlt hmax
  have hi : (ix : Int) < (n : Int) := by omega
  clear hl hx hO hn
  unfold plv
  go_enter Tryz.func77, Tryz.ntmps77
  go_wp2_with fail
  go_region
  all_goals
    go_wp2
    refine bodyPost_ret (v := itemV x) ?_ rfl ⟨rfl, by (repeat (first | (with_reducible exact Chg.refl _ _) | (with_reducible assumption) | (with_reducible refine Chg.drewN ?_ _) | (with_reducible refine Chg.drew ?_) | (with_reducible refine Chg.alloc ?_ _) | (with_reducible refine Chg.setCell ?_ (by first | (left; simp [DevH.foot]; done) | (right; simp; done) | (right; simp; omega)) _)))⟩
    simp [results, Tryz.results77, go_sem]

set_option maxRecDepth 100000 in
set_option maxHeartbeats 2000000 in
theorem item_reg (hl : LgAt w h t G) (rg ix : Nat) (S : Sealed) (x : Item) (hS : G.regs[rg]? = some S) (hx : S.l[ix]? = some x) :
    Calls Tryz.prog 77 #[.pointer (some ⟨t.L, 0, none⟩), plv ⟨false, rg, ix⟩] w fun e w' => e = .returned (itemV x) ∧ Chg No w w' := by
  obtain ⟨r, ro, rc, hR, hrg, hrow⟩ := hl.row
  obtain ⟨v, _, e1, hsl⟩ := hrow rg S hS
  obtain ⟨g, off, c, rfl, hg, c0, c1, c2, c3, c4⟩ := hsl.item hx
  have d3 := hl.box.cell 3
  simp at d3
  rw [hR] at d3
  have hlt : ix < S.l.length := (List.getElem?_eq_some_iff.1 hx).1
  have hrl : rg < G.regs.length := (List.getElem?_eq_some_iff.1 hS).1
  have hmax := (hl.ok.small S (List.mem_of_getElem? hS)).1
  have hmost := hl.ok.most
  have hll := hl.lt _ hl.ownL
  obtain ⟨n, hn⟩ : ∃ n, n = S.l.length := ⟨_, rfl⟩
  obtain ⟨m, hm⟩ : ∃ m, m = G.regs.length := ⟨_, rfl⟩
  rw [← hn] at e1 hlt hmax
  rw [← hm] at d3 hrl hmost
  have hi : (ix : Int) < (n : Int) := by omega
  have hri : (rg : Int) < (m : Int) := by omega
  clear hl hx hS hR hn hm hrow hsl
  unfold plv
  go_enter Tryz.func77, Tryz.ntmps77
  go_wp2_with fail
  go_region
  all_goals
    go_wp2
    refine bodyPost_ret (v := itemV x) ?_ rfl ⟨rfl, by (repeat (first | (with_reducible exact Chg.refl _ _) | (with_reducible assumption) | (with_reducible refine Chg.drewN ?_ _) | (with_reducible refine Chg.drew ?_) | (with_reducible refine Chg.alloc ?_ _) | (with_reducible refine Chg.setCell ?_ (by first | (left; simp [DevH.foot]; done) | (right; simp; done) | (right; simp; omega)) _)))⟩
    simp [results, Tryz.results77, go_sem]

abbrev zrw : Array Value := #[.string ⟨#[]⟩, .string ⟨#[]⟩, .int .u32 0, .int .i64 0, .int .u64 0]
theorem zrw_z (w : World) : Blk (w.alloc (.cells zrw tItem)) w.heap.size tItem zrw := Blk.new _ _ _
set_option maxRecDepth 100000 in
set_option maxHeartbeats 2000000 in
theorem gget_calls (hl : LgAt w h t G) (key : ByteArray) :
    Calls Tryz.prog 50 #[.pointer (some ⟨t.L, 0, none⟩), .string key] w fun e w' => e = .returned (.tuple #[itemV (G.get key), .int .i64 (G.getE key)]) ∧ Chg No w w' := by
  have hk := fun W => Lib.hid (fun hc : Chg No w W => (hl.chgNo hc).look key true)
  have c7 := hl.box.cell 7
  simp at c7
  have hll := hl.lt _ hl.ownL
  cases hg : aget G.keys key with
  | none =>
    have hG : G.get key = Item.zero := by unfold Lg.get; rw [hg]
    have hE : G.getE key = 5 := by unfold Lg.getE Lg.has; rw [hg]; rfl
    have hh : G.has key = false := by unfold Lg.has; rw [hg]; rfl
    have hp : G.pl key = .zero := by unfold Lg.pl; rw [hg]; rfl
    rw [hG, hE]
    have hk1 := (hk (w.alloc (.cells zrw tItem))).out (by (repeat (first | (with_reducible exact Chg.refl _ _) | (with_reducible assumption) | (with_reducible refine Chg.drewN ?_ _) | (with_reducible refine Chg.drew ?_) | (with_reducible refine Chg.alloc ?_ _) | (with_reducible refine Chg.setCell ?_ (by first | (left; simp [DevH.foot]; done) | (right; simp; done) | (right; simp; omega)) _))))
    rw [hh, hp] at hk1
    simp only [if_true, plv, Pl.zero, zrw] at hk1
    clear hl hk hg hG hE hh hp
    go_enter Tryz.func50, Tryz.ntmps50
    go_wp2
    refine bodyPost_ret (v := .tuple #[itemV Item.zero, .int .i64 5]) ?_ rfl ⟨rfl, by (repeat (first | (with_reducible exact Chg.refl _ _) | (with_reducible assumption) | (with_reducible refine Chg.drewN ?_ _) | (with_reducible refine Chg.drew ?_) | (with_reducible refine Chg.alloc ?_ _) | (with_reducible refine Chg.setCell ?_ (by first | (left; simp [DevH.foot]; done) | (right; simp; done) | (right; simp; omega)) _)))⟩
    simp [results, Tryz.results50, go_sem]
    try exact ⟨rfl, rfl, rfl, rfl, rfl⟩
  | some p =>
    have hE : G.getE key = 0 := by unfold Lg.getE Lg.has; rw [hg]; rfl
    have hh : G.has key = true := by unfold Lg.has; rw [hg]; rfl
    have hp : G.pl key = p := by unfold Lg.pl; rw [hg]; rfl
    have HI : Hid (∀ W, Chg No w W → Calls Tryz.prog 77 #[.pointer (some ⟨t.L, 0, none⟩), .agg #[.bool p.op, .int .i64 p.rg, .int .i64 p.ix]] W fun e w' => e = .returned (itemV (G.get key)) ∧ Chg No W w') := by
      intro W hc
      have hok := hl.ok.keys key p hg
      unfold Lg.plOk at hok
      have hG : G.get key = G.item p := by unfold Lg.get; rw [hg]
      rw [hG]
      obtain ⟨op, rg, ix⟩ := p
      unfold Lg.item
      cases op with
      | true =>
        simp only [if_true] at hok ⊢
        obtain ⟨rfl, x, hx, _⟩ := hok
        rw [show G.opn.getD ix Item.zero = x from by rw [List.getD_eq_getElem?_getD, hx]; rfl]
        exact item_open (hl.chgNo hc) ix x hx
      | false =>
        simp only [Bool.false_eq_true, if_false] at hok ⊢
        obtain ⟨S, x, hS, hx, _⟩ := hok
        rw [show (rl G.regs rg).getD ix Item.zero = x from by unfold rl; rw [List.getD_eq_getElem?_getD, List.getD_eq_getElem?_getD, hS]; show (S.l[ix]?).getD _ = x; rw [hx]; rfl]
        exact item_reg (hl.chgNo hc) rg ix S x hS hx
    rw [hE]
    obtain ⟨x, hx⟩ : ∃ x, x = G.get key := ⟨_, rfl⟩
    rw [← hx] at HI ⊢
    have hk1 := (hk (w.alloc (.cells zrw tItem))).out (by (repeat (first | (with_reducible exact Chg.refl _ _) | (with_reducible assumption) | (with_reducible refine Chg.drewN ?_ _) | (with_reducible refine Chg.drew ?_) | (with_reducible refine Chg.alloc ?_ _) | (with_reducible refine Chg.setCell ?_ (by first | (left; simp [DevH.foot]; done) | (right; simp; done) | (right; simp; omega)) _))))
    rw [hh, hp] at hk1
    simp only [if_true, plv, zrw] at hk1
    clear hl hk hg hE hh hp hx
    go_enter Tryz.func50, Tryz.ntmps50
    go_wp2_with fail
    have HI2 := fun W => Lib.hid (HI.out W)
    refine ((HI2 _).out (by (repeat (first | (with_reducible exact Chg.refl _ _) | (with_reducible assumption) | (with_reducible refine Chg.drewN ?_ _) | (with_reducible refine Chg.drew ?_) | (with_reducible refine Chg.alloc ?_ _) | (with_reducible refine Chg.setCell ?_ (by first | (left; simp [DevH.foot]; done) | (right; simp; done) | (right; simp; omega)) _))))).mono ?_
    rintro e w1 ⟨rfl, hc1⟩
    have HC := Lib.hid hc1
    have HZ := Lib.hid (((Blk.new w tItem zrw).alloc _).chg hc1 (fun h => h))
    have hz : w.heap.size < w1.heap.size := HZ.out.lt
    clear hc1 HI
    (have z0 := HZ.out.cell 0; have z1 := HZ.out.cell 1; have z2 := HZ.out.cell 2; have z3 := HZ.out.cell 3; have z4 := HZ.out.cell 4; have f0 := HZ.out.frozen 0; have f1 := HZ.out.frozen 1; have f2 := HZ.out.frozen 2; have f3 := HZ.out.frozen 3; have f4 := HZ.out.frozen 4; simp at z0 z1 z2 z3 z4)
    go_wp2
    refine bodyPost_ret (v := .tuple #[itemV x, .int .i64 0]) ?_ rfl ⟨rfl, ?_⟩
    · simp [results, Tryz.results50, go_sem, z0, z1, z2, z3, z4, hz]
    · have h0 : Chg No w w1 := (by (repeat (first | (with_reducible exact Chg.refl _ _) | (with_reducible assumption) | (with_reducible refine Chg.drewN ?_ _) | (with_reducible refine Chg.drew ?_) | (with_reducible refine Chg.alloc ?_ _) | (with_reducible refine Chg.setCell ?_ (by first | (left; simp [DevH.foot]; done) | (right; simp; done) | (right; simp; omega)) _))) : Chg No w _).trans HC.out
      (repeat (first | (with_reducible exact Chg.refl _ _) | (with_reducible assumption) | (with_reducible refine Chg.drewN ?_ _) | (with_reducible refine Chg.drew ?_) | (with_reducible refine Chg.alloc ?_ _) | (with_reducible refine Chg.setCell ?_ (by first | (left; simp [DevH.foot]; done) | (right; simp; done) | (right; simp; omega)) _)))
end
end Go.Proofs.YtplpbbdakihnfaaGreat
end
