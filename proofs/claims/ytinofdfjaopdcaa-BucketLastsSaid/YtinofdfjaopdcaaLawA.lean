/- The laws' small helpers: it, items; the document's Hash. -/
import Derived.Test.YtinofdfjaopdcaaBuckE
import Derived.Test.YtinofdfjaopdcaaComm
import Derived.Test.YtinofdfjaopdcaaRound
namespace Go.Proofs.Ytinofdfjaopdcaa
open Go.RowKit
set_option linter.unusedSimpArgs false
set_option linter.unusedVariables false

def itI (key : ByteArray) (v : UInt64) : Item := { key := key, val := ⟨#[118]⟩, flags := 0, exp := 0, ver := v }

set_option maxRecDepth 100000 in
theorem it_calls (key : ByteArray) (v : UInt64) (w : World) :
    Calls Try.prog 46 #[.string key, .int .u64 v.toNat] w fun e w' => e = .returned (itemV (itI key v)) ∧ Chg No w w' := by
  go_enter Try.func46, Try.ntmps46
  go_wp2
  refine bodyPost_ret (v := itemV (itI key v)) (by simp [results, Try.results46, go_sem]; exact ⟨rfl, rfl, rfl, rfl, rfl⟩) rfl ⟨rfl, ?_⟩
  (repeat (first | (with_reducible exact Chg.refl _ _) | (with_reducible assumption) | (with_reducible refine Chg.drewN ?_ _) | (with_reducible refine Chg.drew ?_) | (with_reducible refine Chg.alloc ?_ _) | (with_reducible refine Chg.setCell ?_ (by first | (left; simp [DevH.foot]; done) | (right; simp; done) | (right; simp; omega)) _)))

set_option maxRecDepth 100000 in
theorem lists_calls (A A2 : Option Addr) (c c2 : Nat) (l m : List Item) (w : World) (hr : Rd w tItem A (l.length * 5) (its l)) (hr2 : Rd w tItem A2 (m.length * 5) (its m)) (hn : l.length ≤ 10000000) (hn2 : m.length ≤ 10000000) :
    Calls Try.prog 33 #[.slice A l.length c, .slice A2 m.length c2] w fun e w' => e = .returned (.bool (decide (l = m))) ∧ Chg No w w' := by
  have HR := Lib.hid hr
  have HR2 := Lib.hid hr2
  clear hr hr2
  by_cases hl : l.length = m.length
  · have hb : ((l.length : Int) != (m.length : Int)) = false := by simp [hl]
    have HL := Lib.hid hl
    obtain ⟨n, hnn⟩ : ∃ n, n = l.length := ⟨_, rfl⟩
    have hnm : m.length = n := by omega
    rw [← hnn, hnm] at hb ⊢
    rw [← hnn] at HR hn
    rw [hnm] at HR2
    have HN := Lib.hid hnn
    have HM := Lib.hid hnm
    clear hnn hnm hl hn2
    go_enter Try.func33, Try.ntmps33
    go_wp2
    go_loopg [5] n (fun g v5 wr => ∃ k : Nat, v5 = .int .i64 k ∧ k ≤ n ∧ n - k = g ∧ Hid (Chg No w wr ∧ l.take k = m.take k))
    case atStart => exact ⟨0, rfl, by omega, by omega, ⟨Chg.refl _ _, rfl⟩⟩
    case round =>
      obtain ⟨k, rfl, hk, hgn, H⟩ := hrel
      subst hgn
      by_cases h0 : k < n
      · obtain ⟨x, hx⟩ : ∃ x, l[k]? = some x := ⟨_, List.getElem?_eq_getElem (by have := HN.out; omega)⟩
        obtain ⟨y, hy⟩ : ∃ y, m[k]? = some y := ⟨_, List.getElem?_eq_getElem (by have := HM.out; omega)⟩
        obtain ⟨g, off, rfl, hg, hc⟩ := (HR.out.chg H.out.1 (fun _ _ _ _ h => h)).at_ (j := k * 5) (by omega)
        obtain ⟨g2, off2, rfl, hg2, hd⟩ := (HR2.out.chg H.out.1 (fun _ _ _ _ h => h)).at_ (j := k * 5) (by omega)
        have c0 := hc (k * 5 + 0) _ (its_get l k 0 x hx (by omega))
        have c1 := hc (k * 5 + 1) _ (its_get l k 1 x hx (by omega))
        have c2 := hc (k * 5 + 2) _ (its_get l k 2 x hx (by omega))
        have c3 := hc (k * 5 + 3) _ (its_get l k 3 x hx (by omega))
        have c4 := hc (k * 5 + 4) _ (its_get l k 4 x hx (by omega))
        have d0 := hd (k * 5 + 0) _ (its_get m k 0 y hy (by omega))
        have d1 := hd (k * 5 + 1) _ (its_get m k 1 y hy (by omega))
        have d2 := hd (k * 5 + 2) _ (its_get m k 2 y hy (by omega))
        have d3 := hd (k * 5 + 3) _ (its_get m k 3 y hy (by omega))
        have d4 := hd (k * 5 + 4) _ (its_get m k 4 y hy (by omega))
        simp only [itc, List.getElem_cons_zero, List.getElem_cons_succ, ← Nat.add_assoc, Nat.add_zero] at c0 c1 c2 c3 c4 d0 d1 d2 d3 d4
        have hki : (0 : Int) ≤ (k : Int) := by omega
        have hkn : (k : Int) < (n : Int) := by omega
        have heq := run_neq_item x y
        have HX := Lib.hid hx
        have HY := Lib.hid hy
        clear hx hy hc hd
        by_cases hxy : x = y
        · rw [show decide (x ≠ y) = false by simp [hxy]] at heq
          have HXY := Lib.hid hxy
          clear hxy
          go_wp2_with fail
          go_quiet (fail)
          go_wp2
          go_roundg (n - (k + 1))
          case measure => omega
          case rel =>
            refine ⟨k + 1, rfl, by omega, rfl, by have := H.out.1; (repeat (first | (with_reducible exact Chg.refl _ _) | (with_reducible assumption) | (with_reducible refine Chg.drewN ?_ _) | (with_reducible refine Chg.drew ?_) | (with_reducible refine Chg.alloc ?_ _) | (with_reducible refine Chg.setCell ?_ (by first | (left; simp [DevH.foot]; done) | (right; simp; done) | (right; simp; omega)) _))), ?_⟩
            rw [List.take_add_one, List.take_add_one, HX.out, HY.out, H.out.2, HXY.out]
        · rw [show decide (x ≠ y) = true by simp [hxy]] at heq
          have HXY := Lib.hid hxy
          clear hxy
          go_wp2_with fail
          go_quiet (fail)
          go_wp2
          go_ret
          refine ⟨?_, by have := H.out.1; (repeat (first | (with_reducible exact Chg.refl _ _) | (with_reducible assumption) | (with_reducible refine Chg.drewN ?_ _) | (with_reducible refine Chg.drew ?_) | (with_reducible refine Chg.alloc ?_ _) | (with_reducible refine Chg.setCell ?_ (by first | (left; simp [DevH.foot]; done) | (right; simp; done) | (right; simp; omega)) _)))⟩
          have : ¬ l = m := by
            intro h
            have h1 := HX.out
            rw [h, HY.out] at h1
            injection h1 with h1
            exact HXY.out h1.symm
          rw [decide_eq_false this]; rfl
      · have e3 : k = n := by omega
        have hlm : l = m := by
          have := H.out.2
          rwa [List.take_of_length_le (by have := HN.out; omega), List.take_of_length_le (by have := HM.out; omega)] at this
        have HLM := Lib.hid hlm
        clear hlm
        go_wp2
        go_ret
        exact ⟨by rw [decide_eq_true HLM.out]; rfl, H.out.1⟩
  · have hb : ((l.length : Int) != (m.length : Int)) = true := by simp; omega
    have hne : ¬ l = m := fun h => hl (by rw [h])
    have HNE := Lib.hid hne
    clear hl hne
    go_enter Try.func33, Try.ntmps33
    go_wp2
    go_ret
    exact ⟨by rw [decide_eq_false HNE.out]; rfl, Chg.refl _ _⟩
end Go.Proofs.Ytinofdfjaopdcaa
