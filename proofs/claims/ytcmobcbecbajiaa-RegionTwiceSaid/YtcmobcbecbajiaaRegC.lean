/- slices.Min and Max at numbers, cmp.Compare, walked. -/
import Derived.Test.YtcmobcbecbajiaaRegRep
import Derived.Test.YtcmobcbecbajiaaRecD
import Derived.WalkLawsBesides
import Derived.Deep.QuietTactic
import Derived.BigQuiet
namespace Go.Proofs.Ytcmobcbecbajiaa
open Go.RowKit
set_option linter.unusedSimpArgs false
set_option linter.unusedVariables false

abbrev tU64 : TypeId := 36
abbrev tU64s : TypeId := 135
def u64s (l : List Nat) : List Value := l.map fun x : Nat => .int .u64 (x : Int)
theorem u64s_length (l : List Nat) : (u64s l).length = l.length := by simp [u64s]
theorem foldl_snoc {α β : Type} (f : β → α → β) (b : β) (l : List α) (k : Nat) (x : α) (h : l[k]? = some x) : (l.take (k + 1)).foldl f b = f ((l.take k).foldl f b) x := by
  rw [List.take_add_one, h, Option.toList, List.foldl_append]; rfl
theorem min_cast (a b : Nat) : ((min a b : Nat) : Int) = min (a : Int) (b : Int) := by omega
theorem max_cast (a b : Nat) : ((max a b : Nat) : Int) = max (a : Int) (b : Int) := by omega

theorem min_calls (A : Option Addr) (n c : Nat) (l : List Nat) (w : World) (hr : Rd w tU64 A n (u64s l)) (h0 : 0 < n) (hn : n ≤ 1000000) (hc : n ≤ c) (hb : ∀ x ∈ l, x < 18446744073709551616) :
    Calls Try.prog 91 #[.slice A n c] w fun e w' => e = .returned (.int .u64 (listMin l)) ∧ w = w' := by
  have hl : l.length = n := by rw [← u64s_length]; exact hr.1
  obtain ⟨g, off, rfl, hg, hx⟩ := hr.at_ h0
  obtain ⟨x0, r, rfl⟩ : ∃ x r, l = x :: r := by
    cases l with
    | nil => simp at hl; omega
    | cons x r => exact ⟨x, r, rfl⟩
  have c0 := hx 0 (.int .u64 (x0 : Int)) rfl
  rw [Nat.add_zero] at c0
  have HX : Hid (∀ (j x : Nat), r[j]? = some x → w.cell? ⟨g, off + (j + 1), none⟩ = some (.int .u64 (x : Int))) := fun j x hj => hx (j + 1) _ (by simp [u64s, hj])
  have HL : Hid (r.length + 1 = n) := by show _ = _; simpa using hl
  have h0i : (0 : Int) < (n : Int) := by omega
  have h1i : ¬ (n : Int) < 1 := by omega
  clear hr hx hl hg hb
  go_enter Try.func91, Try.ntmps91
  go_wp2
  go_loopg [3, 4] n (fun gk m i wr => ∃ k : Nat, gk = n - k ∧ k ≤ r.length ∧ w = wr ∧ i = .int .i64 ((k + 1 : Nat) : Int) ∧ m = .int .u64 (((r.take k).foldl min x0 : Nat) : Int))
  case atStart => exact ⟨0, by omega, by omega, rfl, rfl, rfl⟩
  case round =>
    obtain ⟨k, rfl, hk, rfl, rfl, rfl⟩ := hrel
    have hn1 := HL.out
    by_cases hlt : k < r.length
    · obtain ⟨x, hx⟩ : ∃ x, r[k]? = some x := ⟨_, List.getElem?_eq_getElem hlt⟩
      have cx := HX.out k x hx
      have HS : Hid ((r.take (k + 1)).foldl min x0 = min ((r.take k).foldl min x0) x) := foldl_snoc _ _ _ _ _ hx
      obtain ⟨m, hm⟩ : ∃ m, m = (r.take k).foldl min x0 := ⟨_, rfl⟩
      rw [← hm] at HS ⊢
      have hki : ((k + 1 : Nat) : Int) < (n : Int) := by omega
      clear hx hm
      go_wp2
      all_goals
        go_roundg (n - (k + 1))
        case measure => omega
        case rel => exact ⟨k + 1, rfl, by omega, rfl, by go_num, by rw [HS.out]; first | rfl | (rw [min_cast]; rfl) | (rw [min_cast]; congr 1; omega)⟩
    · obtain rfl : k = r.length := by omega
      have hki : ¬ ((r.length + 1 : Nat) : Int) < (n : Int) := by omega
      clear hlt
      go_wp2
      go_ret
      exact ⟨by simp [listMin, List.take_length], rfl⟩
theorem max_calls (A : Option Addr) (n c : Nat) (l : List Nat) (w : World) (hr : Rd w tU64 A n (u64s l)) (h0 : 0 < n) (hn : n ≤ 1000000) (hc : n ≤ c) (hb : ∀ x ∈ l, x < 18446744073709551616) :
    Calls Try.prog 92 #[.slice A n c] w fun e w' => e = .returned (.int .u64 (listMax l)) ∧ w = w' := by
  have hl : l.length = n := by rw [← u64s_length]; exact hr.1
  obtain ⟨g, off, rfl, hg, hx⟩ := hr.at_ h0
  obtain ⟨x0, r, rfl⟩ : ∃ x r, l = x :: r := by
    cases l with
    | nil => simp at hl; omega
    | cons x r => exact ⟨x, r, rfl⟩
  have c0 := hx 0 (.int .u64 (x0 : Int)) rfl
  rw [Nat.add_zero] at c0
  have HX : Hid (∀ (j x : Nat), r[j]? = some x → w.cell? ⟨g, off + (j + 1), none⟩ = some (.int .u64 (x : Int))) := fun j x hj => hx (j + 1) _ (by simp [u64s, hj])
  have HL : Hid (r.length + 1 = n) := by show _ = _; simpa using hl
  have h0i : (0 : Int) < (n : Int) := by omega
  have h1i : ¬ (n : Int) < 1 := by omega
  clear hr hx hl hg hb
  go_enter Try.func92, Try.ntmps92
  go_wp2
  go_loopg [3, 4] n (fun gk m i wr => ∃ k : Nat, gk = n - k ∧ k ≤ r.length ∧ w = wr ∧ i = .int .i64 ((k + 1 : Nat) : Int) ∧ m = .int .u64 (((r.take k).foldl max x0 : Nat) : Int))
  case atStart => exact ⟨0, by omega, by omega, rfl, rfl, rfl⟩
  case round =>
    obtain ⟨k, rfl, hk, rfl, rfl, rfl⟩ := hrel
    have hn1 := HL.out
    by_cases hlt : k < r.length
    · obtain ⟨x, hx⟩ : ∃ x, r[k]? = some x := ⟨_, List.getElem?_eq_getElem hlt⟩
      have cx := HX.out k x hx
      have HS : Hid ((r.take (k + 1)).foldl max x0 = max ((r.take k).foldl max x0) x) := foldl_snoc _ _ _ _ _ hx
      obtain ⟨m, hm⟩ : ∃ m, m = (r.take k).foldl max x0 := ⟨_, rfl⟩
      rw [← hm] at HS ⊢
      have hki : ((k + 1 : Nat) : Int) < (n : Int) := by omega
      clear hx hm
      go_wp2
      all_goals
        go_roundg (n - (k + 1))
        case measure => omega
        case rel => exact ⟨k + 1, rfl, by omega, rfl, by go_num, by rw [HS.out]; first | rfl | (rw [max_cast]; rfl) | (rw [max_cast]; congr 1; omega)⟩
    · obtain rfl : k = r.length := by omega
      have hki : ¬ ((r.length + 1 : Nat) : Int) < (n : Int) := by omega
      clear hlt
      go_wp2
      go_ret
      exact ⟨by simp [listMax, List.take_length], rfl⟩

/-- how two numbers stand to each other -/
def cmpN (a b : Nat) : Int := if a < b then -1 else if b < a then 1 else 0
theorem isNaN_calls (a : Int) (w : World) : Calls Try.prog 104 #[.int .u64 a] w fun e w' => e = .returned (.bool false) ∧ w = w' := by
  go_enter Try.func104, Try.ntmps104
  go_wp2
  go_ret
  exact ⟨rfl, rfl⟩
theorem compare_calls (a b : Nat) (w : World) : Calls Try.prog 95 #[.int .u64 a, .int .u64 b] w fun e w' => e = .returned (.int .i64 (cmpN a b)) ∧ w = w' := by
  have HE : Hid (cmpN a b = if a < b then -1 else if b < a then 1 else 0) := rfl
  obtain ⟨c, hc⟩ : ∃ c, c = cmpN a b := ⟨_, rfl⟩
  rw [← hc] at HE ⊢
  clear hc
  by_cases h1 : a < b
  · have b1 : (a : Int) < (b : Int) := by omega
    have HC : Hid (c = -1) := by show _ = _; rw [HE.out, if_pos h1]
    clear HE
    go_enter Try.func95, Try.ntmps95
    go_wp2_with (first | (go_at_call 104; refine (isNaN_calls _ _).mono ?_; rintro e w' ⟨rfl, rfl⟩))
    go_ret
    exact ⟨by rw [HC.out]; rfl, rfl⟩
  · by_cases h2 : b < a
    · have b1 : ¬ (a : Int) < (b : Int) := by omega
      have b2 : (b : Int) < (a : Int) := by omega
      have HC : Hid (c = 1) := by show _ = _; rw [HE.out, if_neg h1, if_pos h2]
      clear HE
      go_enter Try.func95, Try.ntmps95
      go_wp2_with (first | (go_at_call 104; refine (isNaN_calls _ _).mono ?_; rintro e w' ⟨rfl, rfl⟩))
      go_ret
      exact ⟨by rw [HC.out]; rfl, rfl⟩
    · have b1 : ¬ (a : Int) < (b : Int) := by omega
      have b2 : ¬ (b : Int) < (a : Int) := by omega
      have HC : Hid (c = 0) := by show _ = _; rw [HE.out, if_neg h1, if_neg h2]
      clear HE
      go_enter Try.func95, Try.ntmps95
      go_wp2_with (first | (go_at_call 104; refine (isNaN_calls _ _).mono ?_; rintro e w' ⟨rfl, rfl⟩))
      go_ret
      exact ⟨by rw [HC.out]; rfl, rfl⟩

/-- the closure of byNumber -/
theorem byCmp_calls {w : World} {h : DevH} {t : LgH} {G : Lg} (hl : LgAt w h t G) (B : Nat) (hB : Blk w B 48 #[.pointer (some ⟨t.L, 0, none⟩)]) (a b : Nat) (ha : a < G.regs.length) (hb : b < G.regs.length) :
    Calls Try.prog 94 #[.int .i64 a, .int .i64 b, .pointer (some ⟨B, 0, none⟩)] w fun e w' => e = .returned (.int .i64 (cmpN (rnum G.regs a) (rnum G.regs b))) ∧ ∃ n, w' = w.drewN n := by
  obtain ⟨ses, hn, ho, hs⟩ := hl.regs
  obtain ⟨va, hva, qa⟩ := hs a _ (List.getElem?_eq_getElem ha)
  obtain ⟨vb, hvb, qb⟩ := hs b _ (List.getElem?_eq_getElem hb)
  obtain ⟨A, c, hR, hnc, hrd⟩ := own_slice ho
  have c3 := hl.box.cell 3
  simp at c3
  have cB := hB.cell 0
  simp at cB
  rw [hR] at c3
  obtain ⟨g, off, rfl, hg, hx⟩ := hrd.at_ (j := 0) (by omega)
  have ca := hx (a * 2) _ (secs_get ses a _ hva).1
  have cb := hx (b * 2) _ (secs_get ses b _ hvb).1
  have ea : rnum G.regs a = (G.regs[a]).num := by unfold rnum; rw [List.getD_eq_getElem?_getD, List.getElem?_eq_getElem ha]; rfl
  have eb : rnum G.regs b = (G.regs[b]).num := by unfold rnum; rw [List.getD_eq_getElem?_getD, List.getElem?_eq_getElem hb]; rfl
  rw [← ea] at ca
  rw [← eb] at cb
  have hai : (a : Int) < (G.regs.length : Int) := by omega
  have hbi : (b : Int) < (G.regs.length : Int) := by omega
  obtain ⟨na, hna⟩ : ∃ na, na = rnum G.regs a := ⟨_, rfl⟩
  obtain ⟨nb, hnb⟩ : ∃ nb, nb = rnum G.regs b := ⟨_, rfl⟩
  obtain ⟨m, hm⟩ : ∃ m, m = G.regs.length := ⟨_, rfl⟩
  rw [← hna] at ca ⊢
  rw [← hnb] at cb ⊢
  rw [← hm] at c3 hai hbi
  simp only at ca cb
  clear hl hB hn ho hs hva hvb hR hrd hg hx ea eb hna hnb hm qa qb ha hb
  go_enter Try.func94, Try.ntmps94
  go_wp2_with fail
  go_quiet ((go_at_call 95; exact quiet_left (compare_calls _ _ _)))
  go_wp2
  go_ret
  exact ⟨rfl, _, rfl⟩
end Go.Proofs.Ytcmobcbecbajiaa
