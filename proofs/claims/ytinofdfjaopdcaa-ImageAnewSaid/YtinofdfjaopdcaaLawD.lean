/- The laws' total; the document's Good and Size. -/
import Derived.Test.YtinofdfjaopdcaaLawC
namespace Go.Proofs.Ytinofdfjaopdcaa
open Go.RowKit
set_option linter.unusedSimpArgs false
set_option linter.unusedVariables false

def tot (l : List Item) : Nat := (l.map (·.size)).sum
theorem tot_take {l : List Item} {k : Nat} {x : Item} (hx : l[k]? = some x) : tot (l.take (k + 1)) = tot (l.take k) + x.size := by
  unfold tot
  rw [List.take_add_one, hx]; simp
theorem tot_le {l : List Item} (h : goods l = true) : tot l ≤ 1306 * l.length := by
  induction l with
  | nil => simp [tot]
  | cons x r ih =>
    simp only [goods, List.all_cons, Bool.and_eq_true] at h
    have h1 := record_le x h.1
    rw [record_length] at h1
    have h2 := ih h.2
    simp only [tot, List.map_cons, List.sum_cons, List.length_cons] at h2 ⊢
    omega
theorem tot_records (l : List Item) : (records l).length = tot l := by
  induction l with
  | nil => rfl
  | cons x r ih => simp only [records, List.flatMap_cons, List.length_append, record_length, tot, List.map_cons, List.sum_cons] at ih ⊢; omega

set_option maxRecDepth 100000 in
theorem total_calls (A : Option Addr) (c : Nat) (l : List Item) (w : World) (hr : Rd w tItem A (l.length * 5) (its l)) (hn : l.length ≤ 1000000) (hg : goods l = true) :
    Calls Try.prog 35 #[.slice A l.length c] w fun e w' => e = .returned (.int .i64 (tot l)) ∧ Chg No w w' := by
  have HR := Lib.hid hr
  have HG := Lib.hid hg
  clear hr hg
  go_enter Try.func35, Try.ntmps35
  go_wp2
  go_loopg [3, 4] l.length (fun g v3 v4 wr => ∃ (k z : Nat), v4 = .int .i64 k ∧ v3 = .int .i64 z ∧ k ≤ l.length ∧ l.length - k = g ∧ z ≤ 1306 * k ∧ Hid (Chg No w wr ∧ z = tot (l.take k)))
  case atStart => exact ⟨0, 0, rfl, rfl, by omega, by omega, by omega, ⟨Chg.refl _ _, rfl⟩⟩
  case round =>
    obtain ⟨k, z, rfl, rfl, hk, hgn, hz, H⟩ := hrel
    subst hgn
    by_cases h0 : k < l.length
    · obtain ⟨x, hx⟩ : ∃ x, l[k]? = some x := ⟨_, List.getElem?_eq_getElem h0⟩
      have hgx : x.good = true := List.all_eq_true.1 HG.out x (List.mem_of_getElem? hx)
      simp only [Item.good, Bool.and_eq_true, decide_eq_true_eq] at hgx
      obtain ⟨⟨⟨g1, g2⟩, g3⟩, g4⟩ := hgx
      obtain ⟨g, off, rfl, hg, hc⟩ := (HR.out.chg H.out.1 (fun _ _ _ _ h => h)).at_ (j := k * 5) (by omega)
      have c0 := hc (k * 5 + 0) _ (its_get l k 0 x hx (by omega))
      have c1 := hc (k * 5 + 1) _ (its_get l k 1 x hx (by omega))
      simp only [itc, List.getElem_cons_zero, List.getElem_cons_succ, ← Nat.add_assoc, Nat.add_zero] at c0 c1
      have hki : (0 : Int) ≤ (k : Int) := by omega
      have hkn : (k : Int) < (l.length : Int) := by omega
      have hks : x.key.size ≤ 250 := g2
      have hvs : x.val.size ≤ 1024 := g3
      have q1 : IntKind.i64.wrap ((z : Int) + 32) = (z : Int) + 32 := IntWalk.i64_in _ (by omega)
      have q2 : IntKind.i64.wrap ((z : Int) + 32 + (x.key.size : Int)) = (z : Int) + 32 + (x.key.size : Int) := IntWalk.i64_in _ (by omega)
      have q3 : IntKind.i64.wrap ((z : Int) + 32 + (x.key.size : Int) + (x.val.size : Int)) = (z : Int) + 32 + (x.key.size : Int) + (x.val.size : Int) := IntWalk.i64_in _ (by omega)
      have HS := Lib.hid (tot_take hx)
      have hxs : x.size = 32 + x.key.size + x.val.size := rfl
      have HXS := Lib.hid hxs
      clear hx hc g1 g2 g3 g4 hxs
      go_wp2_with fail
      go_quiet (fail)
      go_wp2
      go_roundg (l.length - (k + 1))
      case measure => omega
      case rel =>
        refine ⟨k + 1, z + 32 + x.key.size + x.val.size, rfl, ?_, by omega, rfl, by omega, by have := H.out.1; (repeat (first | (with_reducible exact Chg.refl _ _) | (with_reducible assumption) | (with_reducible refine Chg.drewN ?_ _) | (with_reducible refine Chg.drew ?_) | (with_reducible refine Chg.alloc ?_ _) | (with_reducible refine Chg.setCell ?_ (by first | (left; simp [DevH.foot]; done) | (right; simp; done) | (right; simp; omega)) _))), ?_⟩
        · simp
        · rw [HS.out, ← H.out.2, HXS.out]; omega
    · have e3 : k = l.length := by omega
      subst e3
      rw [List.take_length] at H
      have HH := Lib.hid H.out.2
      go_wp2
      go_ret
      exact ⟨by rw [← HH.out]; rfl, H.out.1⟩

theorem rgood_calls (x : Item) (w : World) :
    Calls Try.prog 19 #[.agg #[.string x.key, .string x.val, .int .u32 x.flags.toNat, .int .i64 x.exp.toInt, .int .u64 x.ver.toNat]] w fun e w' => e = .returned (.bool x.good) ∧ Chg No w w' := by
  by_cases c1 : 1 ≤ x.key.size
  · by_cases c2 : x.key.size ≤ 250
    · by_cases c3 : x.val.size ≤ 1024
      · rw [show x.good = decide (0 < x.ver.toNat) from by simp [Item.good, c1, c2, c3]]
        go_enter Try.func19, Try.ntmps19
        go_wp2
        go_ret
        exact ⟨by simp, by (repeat (first | (with_reducible exact Chg.refl _ _) | (with_reducible assumption) | (with_reducible refine Chg.drewN ?_ _) | (with_reducible refine Chg.drew ?_) | (with_reducible refine Chg.alloc ?_ _) | (with_reducible refine Chg.setCell ?_ (by first | (left; simp [DevH.foot]; done) | (right; simp; done) | (right; simp; omega)) _)))⟩
      · rw [show x.good = false from by simp [Item.good, c3]]
        go_enter Try.func19, Try.ntmps19
        go_wp2
        go_ret
        exact ⟨rfl, by (repeat (first | (with_reducible exact Chg.refl _ _) | (with_reducible assumption) | (with_reducible refine Chg.drewN ?_ _) | (with_reducible refine Chg.drew ?_) | (with_reducible refine Chg.alloc ?_ _) | (with_reducible refine Chg.setCell ?_ (by first | (left; simp [DevH.foot]; done) | (right; simp; done) | (right; simp; omega)) _)))⟩
    · rw [show x.good = false from by simp [Item.good, c2]]
      go_enter Try.func19, Try.ntmps19
      go_wp2
      go_ret
      exact ⟨rfl, by (repeat (first | (with_reducible exact Chg.refl _ _) | (with_reducible assumption) | (with_reducible refine Chg.drewN ?_ _) | (with_reducible refine Chg.drew ?_) | (with_reducible refine Chg.alloc ?_ _) | (with_reducible refine Chg.setCell ?_ (by first | (left; simp [DevH.foot]; done) | (right; simp; done) | (right; simp; omega)) _)))⟩
  · rw [show x.good = false from by simp only [Item.good, c1]; simp]
    go_enter Try.func19, Try.ntmps19
    go_wp2
    go_ret
    exact ⟨rfl, by (repeat (first | (with_reducible exact Chg.refl _ _) | (with_reducible assumption) | (with_reducible refine Chg.drewN ?_ _) | (with_reducible refine Chg.drew ?_) | (with_reducible refine Chg.alloc ?_ _) | (with_reducible refine Chg.setCell ?_ (by first | (left; simp [DevH.foot]; done) | (right; simp; done) | (right; simp; omega)) _)))⟩

theorem rsize_calls (x : Item) (w : World) (h1 : x.key.size ≤ 140737488351232) (h2 : x.val.size ≤ 140737488351232) :
    Calls Try.prog 20 #[.agg #[.string x.key, .string x.val, .int .u32 x.flags.toNat, .int .i64 x.exp.toInt, .int .u64 x.ver.toNat]] w fun e w' => e = .returned (.int .i64 x.size) ∧ Chg No w w' := by
  go_enter Try.func20, Try.ntmps20
  go_wp2
  go_ret
  exact ⟨ret_int (by simp [Item.size]), by (repeat (first | (with_reducible exact Chg.refl _ _) | (with_reducible assumption) | (with_reducible refine Chg.drewN ?_ _) | (with_reducible refine Chg.drew ?_) | (with_reducible refine Chg.alloc ?_ _) | (with_reducible refine Chg.setCell ?_ (by first | (left; simp [DevH.foot]; done) | (right; simp; done) | (right; simp; omega)) _)))⟩
end Go.Proofs.Ytinofdfjaopdcaa
