/- slices.Equal at bytes, walked. -/
import Derived.Test.YtcmobcbecbajiaaFlashB
import Derived.Deep.LoopGhost
import Derived.Deep.DrawnRows
import Derived.Deep.QuietTactic
import Derived.BigQuiet
namespace Go.Proofs.Ytcmobcbecbajiaa
open Go.RowKit
attribute [local go_sem ↓] Go.wp_at_zero Go.wp_at_succ
set_option linter.unusedSimpArgs false
set_option linter.unusedVariables false

set_option maxRecDepth 100000 in
theorem eqb_calls (A A2 : Option Addr) (n m c c2 : Nat) (b d : List UInt8) (w : World) (hr : Rd w tU8 A n (bys b)) (hr2 : Rd w tU8 A2 m (bys d)) (hn : n ≤ 1000000) (hm : m ≤ 1000000) :
    Calls Try.prog 61 #[.slice A n c, .slice A2 m c2] w fun e w' => e = .returned (.bool (decide (b = d))) ∧ Chg No w w' := by
  have hbl : b.length = n := by rw [← bys_length]; exact hr.1
  have hdl : d.length = m := by rw [← bys_length]; exact hr2.1
  have HR := Lib.hid hr
  have HR2 := Lib.hid hr2
  have HBL := Lib.hid hbl
  have HDL := Lib.hid hdl
  clear hr hr2 hbl hdl
  by_cases hl : n = m
  · subst hl
    go_enter Try.func61, Try.ntmps61
    go_wp2
    go_loopg [5, 13] n (fun g v5 v13 wr => ∃ k : Nat, v13 = .int .i64 k ∧ k ≤ n ∧ n - k = g ∧ Hid (Chg No w wr ∧ b.take k = d.take k))
    case atStart => exact ⟨0, rfl, by omega, by omega, ⟨Chg.refl _ _, rfl⟩⟩
    case round =>
      obtain ⟨k, rfl, hk, hgn, H⟩ := hrel
      subst hgn
      by_cases h0 : k < n
      · obtain ⟨x, hx⟩ : ∃ x, b[k]? = some x := ⟨_, List.getElem?_eq_getElem (by have := HBL.out; omega)⟩
        obtain ⟨y, hy⟩ : ∃ y, d[k]? = some y := ⟨_, List.getElem?_eq_getElem (by have := HDL.out; omega)⟩
        obtain ⟨g, off, rfl, hg, hc⟩ := (HR.out.chg H.out.1 (fun _ _ _ _ h => h)).at_ h0
        obtain ⟨g2, off2, rfl, hg2, hd⟩ := (HR2.out.chg H.out.1 (fun _ _ _ _ h => h)).at_ h0
        have c0 := hc k _ (by simp only [bys, List.getElem?_map, hx]; rfl)
        have d0 := hd k _ (by simp only [bys, List.getElem?_map, hy]; rfl)
        have hki : (0 : Int) ≤ (k : Int) := by omega
        have hkn : (k : Int) < (n : Int) := by omega
        have HX := Lib.hid hx
        have HY := Lib.hid hy
        clear hx hy hc hd
        by_cases hxy : x = y
        · subst hxy
          have hb : ((x.toNat : Int) != (x.toNat : Int)) = false := by simp
          go_wp2_with fail
          go_quiet (fail)
          go_wp2
          go_roundg (n - (k + 1))
          case measure => omega
          case rel =>
            refine ⟨k + 1, rfl, by omega, rfl, by have := H.out.1; (repeat (first | (with_reducible exact Chg.refl _ _) | (with_reducible assumption) | (with_reducible refine Chg.drewN ?_ _) | (with_reducible refine Chg.drew ?_) | (with_reducible refine Chg.alloc ?_ _) | (with_reducible refine Chg.setCell ?_ (by first | (left; simp [DevH.foot]; done) | (right; simp; done) | (right; simp; omega)) _))), ?_⟩
            rw [List.take_add_one, List.take_add_one, HX.out, HY.out, H.out.2]
        · have hne : ¬ (x.toNat : Int) = (y.toNat : Int) := fun h => hxy (UInt8.toNat_inj.1 (Int.ofNat.inj h))
          have hb : ((x.toNat : Int) != (y.toNat : Int)) = true := by simpa using hne
          have HXY := Lib.hid hxy
          clear hxy hne
          go_wp2_with fail
          go_quiet (fail)
          go_wp2
          go_ret
          refine ⟨?_, by have := H.out.1; (repeat (first | (with_reducible exact Chg.refl _ _) | (with_reducible assumption) | (with_reducible refine Chg.drewN ?_ _) | (with_reducible refine Chg.drew ?_) | (with_reducible refine Chg.alloc ?_ _) | (with_reducible refine Chg.setCell ?_ (by first | (left; simp [DevH.foot]; done) | (right; simp; done) | (right; simp; omega)) _)))⟩
          have : ¬ b = d := by
            intro h
            have h1 := HX.out
            rw [h, HY.out] at h1
            injection h1 with h1
            exact HXY.out h1.symm
          rw [decide_eq_false this]; rfl
      · obtain rfl : k = n := by omega
        have hlm : b = d := by
          have := H.out.2
          rwa [List.take_of_length_le (by have := HBL.out; omega), List.take_of_length_le (by have := HDL.out; omega)] at this
        have HLM := Lib.hid hlm
        clear hlm h0
        go_wp2
        go_ret
        exact ⟨by rw [decide_eq_true HLM.out]; rfl, H.out.1⟩
  · have hb : ((n : Int) != (m : Int)) = true := by simp; omega
    have hne : ¬ b = d := fun h => hl (by rw [← HBL.out, ← HDL.out, h])
    have HNE := Lib.hid hne
    clear hl hne
    go_enter Try.func61, Try.ntmps61
    go_wp2
    go_ret
    exact ⟨by rw [decide_eq_false HNE.out]; rfl, Chg.refl _ _⟩

end Go.Proofs.Ytcmobcbecbajiaa
