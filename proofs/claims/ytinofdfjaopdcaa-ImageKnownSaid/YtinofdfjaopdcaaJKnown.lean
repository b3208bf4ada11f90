/- ImageKnown: the walk. -/
import Derived.Test.YtinofdfjaopdcaaImgE
namespace Go.Proofs.Ytinofdfjaopdcaa
open Go.RowKit
attribute [local go_sem ↓] Go.wp_at_zero Go.wp_at_succ
set_option linter.unusedSimpArgs false
set_option linter.unusedVariables false

theorem jk_new (w : World) : Calls Try.prog 16 #[.int .i64 2] w fun e w' => ∃ h : DevH, e = .returned (.tuple #[.pointer (some ⟨h.d, 0, none⟩), .int .i64 0]) ∧ DevAt w' h (Dev.new 2) ∧ Chg No w w' ∧ ∀ k, h.foot k → w.heap.size ≤ k := new_calls 2 w (by decide) (by decide)
theorem jk_dump1 {w : World} {h : DevH} (hd : DevAt w h (Dev.new 2)) :
    Calls Try.prog 17 #[.pointer (some ⟨h.d, 0, none⟩), .int .i64 1, .int .i64 2, .slice none 0 0] w fun e w' => e = .returned (.tuple #[.int .i64 0, .int .i64 0, .int .i64 1]) ∧ Chg h.foot w w' ∧ DevAt w' h (Dev.new 2) := by
  refine (dump_calls hd 1 2 (by decide) (by decide) none 0 0 [] tItem rfl (Rd.nil _ _ _) (by decide)).mono ?_
  rintro e w' ⟨p, m, er, D', rfl, hd', hc, hR⟩
  obtain ⟨rfl, rfl, rfl, rfl⟩ := hR.bad (by decide)
  exact ⟨rfl, hc, hd'⟩
theorem jk_dump2 {w : World} {h : DevH} (hd : DevAt w h (Dev.new 2)) (A : Option Addr) (c : Nat) (hr : Rd w tItem A (1 * 5) (its [Item.zero])) :
    Calls Try.prog 17 #[.pointer (some ⟨h.d, 0, none⟩), .int .i64 0, .int .i64 1, .slice A 1 c] w fun e w' => e = .returned (.tuple #[.int .i64 0, .int .i64 0, .int .i64 1]) ∧ Chg h.foot w w' ∧ DevAt w' h (Dev.new 2) := by
  refine (dump_calls hd 0 1 (by decide) (by decide) A 1 c [Item.zero] tItem rfl hr (by decide)).mono ?_
  rintro e w' ⟨p, m, er, D', rfl, hd', hc, hR⟩
  obtain ⟨rfl, rfl, rfl, rfl⟩ := hR.bad (by decide)
  exact ⟨rfl, hc, hd'⟩
theorem jk_l1 : (Dev.new 2).load 0 1 = ([], 3) := rfl
theorem jk_l2 : (Dev.new 2).load 2 0 = ([], 0) := rfl
theorem jk_load1 {w : World} {h : DevH} (hd : DevAt w h (Dev.new 2)) :
    Calls Try.prog 18 #[.pointer (some ⟨h.d, 0, none⟩), .int .i64 0, .int .i64 1] w fun e w' => ∃ v, e = .returned (.tuple #[v, .int .i64 3]) ∧ Chg h.foot w w' ∧ DevAt w' h (Dev.new 2) := by
  refine (load_calls hd 0 1 (by decide) (by decide)).mono ?_
  rintro e w' ⟨v, rfl, ho, hd', hc⟩
  rw [jk_l1]
  exact ⟨v, rfl, hc, hd'.at_⟩
theorem jk_load2 {w : World} {h : DevH} (hd : DevAt w h (Dev.new 2)) :
    Calls Try.prog 18 #[.pointer (some ⟨h.d, 0, none⟩), .int .i64 2, .int .i64 0] w fun e w' => ∃ A c, e = .returned (.tuple #[.slice A 0 c, .int .i64 0]) ∧ Chg h.foot w w' := by
  refine (load_calls hd 2 0 (by decide) (by decide)).mono ?_
  rintro e w' ⟨v, rfl, ho, hd', hc⟩
  rw [jk_l2] at ho ⊢
  obtain ⟨A, c, rfl, _⟩ := own_slice ho
  exact ⟨A, c, rfl, hc⟩

set_option maxRecDepth 100000 in
theorem jknown_calls (w : World) : Calls Try.prog 3 #[] w fun e w' => e = .returned (.bool true) ∧ Chg No w w' := by
  have HAW := Lib.hid (awake15_calls w)
  have HN := fun W => Lib.hid (jk_new W)
  go_enter Try.func3, Try.ntmps3
  go_wp2_with fail
  refine HAW.out.mono ?_
  rintro e w0 ⟨rfl, hc0⟩
  have HC0 := Lib.hid hc0
  clear hc0 HAW
  go_wp2_with fail
  refine (HN _).out.mono ?_
  rintro e w1 ⟨h, rfl, hd1, hc1, hf1⟩
  have HD1 := Lib.hid hd1
  have HC1 := Lib.hid (HC0.out.trans hc1)
  have HF1 : Hid (∀ k, h.foot k → w.heap.size ≤ k) := fun k hk => Nat.le_trans HC0.out.size (hf1 k hk)
  clear hd1 hc1 hf1 HN
  go_wp2_with fail
  refine (jk_dump1 HD1.out).mono ?_
  rintro e w2 ⟨rfl, hc2, hd2⟩
  have HD2 := Lib.hid hd2
  have HC2 : Hid (Chg No w w2) := HC1.out.then hc2 (fun i hi hT => by have := HF1.out i hT; omega)
  clear hd2 hc2
  go_wp2_with fail
  refine (jk_dump2 (HD2.out.chgNo (by (repeat (first | (with_reducible exact Chg.refl _ _) | (with_reducible assumption) | (with_reducible refine Chg.drewN ?_ _) | (with_reducible refine Chg.drew ?_) | (with_reducible refine Chg.alloc ?_ _) | (with_reducible refine Chg.setCell ?_ (by first | (left; simp [DevH.foot]; done) | (right; simp; done) | (right; simp; omega)) _))))).at_ _ _ (rd_item _ Item.zero)).mono ?_
  rintro e w3 ⟨rfl, hc3, hd3⟩
  have HD3 := Lib.hid hd3
  have HC3 : Hid (Chg No w w3) := (HC2.out.alloc _).then hc3 (fun i hi hT => by have := HF1.out i hT; omega)
  clear hd3 hc3
  go_wp2_with fail
  refine (jk_load1 HD3.out).mono ?_
  rintro e w4 ⟨v4, rfl, hc4, hd4⟩
  have HD4 := Lib.hid hd4
  have HC4 : Hid (Chg No w w4) := HC3.out.then hc4 (fun i hi hT => by have := HF1.out i hT; omega)
  clear hd4 hc4
  go_wp2_with fail
  refine (jk_load2 HD4.out).mono ?_
  rintro e w5 ⟨A5, c5, rfl, hc5⟩
  have HC5 : Hid (Chg No w w5) := HC4.out.then hc5 (fun i hi hT => by have := HF1.out i hT; omega)
  clear hc5
  go_wp2
  go_ret
  exact ⟨rfl, HC5.out⟩
end Go.Proofs.Ytinofdfjaopdcaa
