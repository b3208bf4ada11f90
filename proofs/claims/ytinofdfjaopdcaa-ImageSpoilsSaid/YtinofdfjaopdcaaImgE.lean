/- law 15: items, two, awake; what was dumped is loaded. -/
import Derived.Test.YtinofdfjaopdcaaImgD
namespace Go.Proofs.Ytinofdfjaopdcaa
open Go.RowKit
attribute [local go_sem ↓] Go.wp_at_zero Go.wp_at_succ
set_option linter.unusedSimpArgs false
set_option linter.unusedVariables false

theorem DumpR.back {D D' : Dev} {first pages : Int} {l : List Item} {p m : Nat} {er : Int} (h : DumpR D first pages l p m er D') (hD : D.Ok) (hm : D.may first pages = true) (hg : goods l = true) (hn : D.n ≤ 4096) :
    D'.load first p = (l.take m, 0) := by
  obtain ⟨e1, e2, e3, e4, e5, e6, e7⟩ := h.good hD hm hg
  obtain ⟨f, pg, rfl, rfl, hfp⟩ := may_nat hm
  refine e5.load_ (goods_takeN hg m) (by omega) e3 (by omega) (fun j hj => ?_)
  rw [e7, if_pos (by omega), Int.toNat_natCast, Nat.add_sub_cancel_left]
theorem DumpR.sized {D D' : Dev} {first pages : Int} {l : List Item} {p m : Nat} {er : Int} (h : DumpR D first pages l p m er D') : m ≤ l.length := by
  cases h with
  | arg _ => exact Nat.zero_le _
  | cut _ _ _ _ _ => exact Nat.zero_le _
  | noflush _ _ _ => exact Nat.zero_le _
  | ok _ _ _ => exact fitI_le _ _ _

set_option maxRecDepth 100000 in
theorem items15_calls (T T2 : TypeId) (A A2 : Option Addr) (c c2 : Nat) (l m : List Item) (w : World) (hr : Rd w T A (l.length * 5) (its l)) (hr2 : Rd w T2 A2 (m.length * 5) (its m)) (hn : l.length ≤ 10000000) (hn2 : m.length ≤ 10000000) :
    Calls Try.prog 21 #[.slice A l.length c, .slice A2 m.length c2] w fun e w' => e = .returned (.bool (decide (l = m))) ∧ Chg No w w' := by
  have HR := Lib.hid hr
  have HR2 := Lib.hid hr2
  clear hr hr2
  by_cases hl : l.length = m.length
  · have hb : ((l.length : Int) != (m.length : Int)) = false := by simp [hl]
    have HL := Lib.hid hl
    obtain ⟨n, hnn⟩ : ∃ n, n = l.length := ⟨_, rfl⟩
    have hnm : m.length = n := by omega
    rw [← hnn, hnm] at hb ⊢
    rw [← hnn] at HR hn
    rw [hnm] at HR2
    have HN := Lib.hid hnn
    have HM := Lib.hid hnm
    clear hnn hnm hl hn2
    go_enter Try.func21, Try.ntmps21
    go_wp2
    go_loopg [5] n (fun g v5 wr => ∃ k : Nat, v5 = .int .i64 k ∧ k ≤ n ∧ n - k = g ∧ Hid (Chg No w wr ∧ l.take k = m.take k))
    case atStart => exact ⟨0, rfl, by omega, by omega, ⟨Chg.refl _ _, rfl⟩⟩
    case round =>
      obtain ⟨k, rfl, hk, hgn, H⟩ := hrel
      subst hgn
      by_cases h0 : k < n
      · obtain ⟨x, hx⟩ : ∃ x, l[k]? = some x := ⟨_, List.getElem?_eq_getElem (by have := HN.out; omega)⟩
        obtain ⟨y, hy⟩ : ∃ y, m[k]? = some y := ⟨_, List.getElem?_eq_getElem (by have := HM.out; omega)⟩
        obtain ⟨g, off, rfl, hg, hc⟩ := (HR.out.chg H.out.1 (fun _ _ _ _ h => h)).at_ (j := k * 5) (by omega)
        obtain ⟨g2, off2, rfl, hg2, hd⟩ := (HR2.out.chg H.out.1 (fun _ _ _ _ h => h)).at_ (j := k * 5) (by omega)
        have c0 := hc (k * 5 + 0) _ (its_get l k 0 x hx (by omega))
        have c1 := hc (k * 5 + 1) _ (its_get l k 1 x hx (by omega))
        have c2 := hc (k * 5 + 2) _ (its_get l k 2 x hx (by omega))
        have c3 := hc (k * 5 + 3) _ (its_get l k 3 x hx (by omega))
        have c4 := hc (k * 5 + 4) _ (its_get l k 4 x hx (by omega))
        have d0 := hd (k * 5 + 0) _ (its_get m k 0 y hy (by omega))
        have d1 := hd (k * 5 + 1) _ (its_get m k 1 y hy (by omega))
        have d2 := hd (k * 5 + 2) _ (its_get m k 2 y hy (by omega))
        have d3 := hd (k * 5 + 3) _ (its_get m k 3 y hy (by omega))
        have d4 := hd (k * 5 + 4) _ (its_get m k 4 y hy (by omega))
        simp only [itc, List.getElem_cons_zero, List.getElem_cons_succ, ← Nat.add_assoc, Nat.add_zero] at c0 c1 c2 c3 c4 d0 d1 d2 d3 d4
        have hki : (0 : Int) ≤ (k : Int) := by omega
        have hkn : (k : Int) < (n : Int) := by omega
        have heq := run_neq_item x y
        have HX := Lib.hid hx
        have HY := Lib.hid hy
        clear hx hy hc hd
        by_cases hxy : x = y
        · rw [show decide (x ≠ y) = false by simp [hxy]] at heq
          have HXY := Lib.hid hxy
          clear hxy
          go_wp2_with fail
          go_quiet (fail)
          go_wp2
          go_roundg (n - (k + 1))
          case measure => omega
          case rel =>
            refine ⟨k + 1, rfl, by omega, rfl, by have := H.out.1; (repeat (first | (with_reducible exact Chg.refl _ _) | (with_reducible assumption) | (with_reducible refine Chg.drewN ?_ _) | (with_reducible refine Chg.drew ?_) | (with_reducible refine Chg.alloc ?_ _) | (with_reducible refine Chg.setCell ?_ (by first | (left; simp [DevH.foot]; done) | (right; simp; done) | (right; simp; omega)) _))), ?_⟩
            rw [List.take_add_one, List.take_add_one, HX.out, HY.out, H.out.2, HXY.out]
        · rw [show decide (x ≠ y) = true by simp [hxy]] at heq
          have HXY := Lib.hid hxy
          clear hxy
          go_wp2_with fail
          go_quiet (fail)
          go_wp2
          go_ret
          refine ⟨?_, by have := H.out.1; (repeat (first | (with_reducible exact Chg.refl _ _) | (with_reducible assumption) | (with_reducible refine Chg.drewN ?_ _) | (with_reducible refine Chg.drew ?_) | (with_reducible refine Chg.alloc ?_ _) | (with_reducible refine Chg.setCell ?_ (by first | (left; simp [DevH.foot]; done) | (right; simp; done) | (right; simp; omega)) _)))⟩
          have : ¬ l = m := by
            intro h
            have h1 := HX.out
            rw [h, HY.out] at h1
            injection h1 with h1
            exact HXY.out h1.symm
          rw [decide_eq_false this]; rfl
      · have e3 : k = n := by omega
        have hlm : l = m := by
          have := H.out.2
          rwa [List.take_of_length_le (by have := HN.out; omega), List.take_of_length_le (by have := HM.out; omega)] at this
        have HLM := Lib.hid hlm
        clear hlm
        go_wp2
        go_ret
        exact ⟨by rw [decide_eq_true HLM.out]; rfl, H.out.1⟩
  · have hb : ((l.length : Int) != (m.length : Int)) = true := by simp; omega
    have hne : ¬ l = m := fun h => hl (by rw [h])
    have HNE := Lib.hid hne
    clear hl hne
    go_enter Try.func21, Try.ntmps21
    go_wp2
    go_ret
    exact ⟨by rw [decide_eq_false HNE.out]; rfl, Chg.refl _ _⟩

def xA15 : Item := { key := ⟨#[97]⟩, val := ⟨#[49]⟩, flags := 0, exp := 0, ver := 1 }
def xB15 : Item := { key := ⟨#[98]⟩, val := ⟨#[50]⟩, flags := 0, exp := 0, ver := 2 }
theorem two_calls (w : World) : Calls Try.prog 47 #[] w fun e w' => ∃ A c, e = .returned (.slice A 2 c) ∧ Rd w' tItem A (2 * 5) (its [xA15, xB15]) ∧ Chg No w w' := by
  go_enter Try.func47, Try.ntmps47
  go_wp2
  go_ret
  exact ⟨_, _, rfl, Rd.ofBlk (k := 10) (Blk.new w tItem _) (by simp), by (repeat (first | (with_reducible exact Chg.refl _ _) | (with_reducible assumption) | (with_reducible refine Chg.drewN ?_ _) | (with_reducible refine Chg.drew ?_) | (with_reducible refine Chg.alloc ?_ _) | (with_reducible refine Chg.setCell ?_ (by first | (left; simp [DevH.foot]; done) | (right; simp; done) | (right; simp; omega)) _)))⟩

theorem new_Ok (n : Nat) : (Dev.new n).Ok := ⟨rfl, rfl⟩
theorem two_fit : fitI (376 * 2) 0 [xA15, xB15] = 2 := by decide
theorem two_good : goods [xA15, xB15] = true := by decide
theorem two_pages : ckN (records ([xA15, xB15].take 2)).length = 1 := by rw [isum_records]; decide
theorem new3_calls (w : World) : Calls Try.prog 16 #[.int .i64 3] w fun e w' => ∃ h : DevH, e = .returned (.tuple #[.pointer (some ⟨h.d, 0, none⟩), .int .i64 0]) ∧ DevAt w' h (Dev.new 3) ∧ Chg No w w' ∧ ∀ k, h.foot k → w.heap.size ≤ k := new_calls 3 w (by decide) (by decide)
theorem dump3_calls {w : World} {h : DevH} (hd : DevAt w h (Dev.new 3)) (A : Option Addr) (c : Nat) (hr : Rd w tItem A (2 * 5) (its [xA15, xB15])) :
    Calls Try.prog 17 #[.pointer (some ⟨h.d, 0, none⟩), .int .i64 1, .int .i64 2, .slice A 2 c] w fun e w' => e = .returned (.tuple #[.int .i64 1, .int .i64 2, .int .i64 0]) ∧ Chg h.foot w w' ∧ ∃ D', DevAt w' h D' ∧ D'.load 1 1 = ([xA15, xB15], 0) := by
  refine (dump_calls hd 1 2 (by decide) (by decide) A 2 c [xA15, xB15] tItem rfl hr (by decide)).mono ?_
  rintro e w' ⟨p, m, er, D', rfl, hd', hc, hR⟩
  have hm : (Dev.new 3).may 1 2 = true := by decide
  obtain ⟨e1, e2, e3, e4, e5, e6, e7⟩ := hR.good (new_Ok 3) hm two_good
  have hb := hR.back (new_Ok 3) hm two_good (by decide)
  rw [two_fit] at e2
  subst e1; subst e2
  rw [two_pages] at e3
  subst e3
  exact ⟨rfl, hc, D', hd', hb⟩

set_option maxRecDepth 100000 in
theorem awake15_calls (w : World) : Calls Try.prog 15 #[] w fun e w' => e = .returned (.bool true) ∧ Chg No w w' := by
  have HN := fun W => Lib.hid (new3_calls W)
  have HT := fun W => Lib.hid (two_calls W)
  go_enter Try.func15, Try.ntmps15
  go_wp2_with fail
  refine (HN _).out.mono ?_
  rintro e w1 ⟨h, rfl, hd1, hc1, hf1⟩
  have HD1 := Lib.hid hd1
  have HC1 := Lib.hid hc1
  have HF1 := Lib.hid hf1
  clear hd1 hc1 hf1 HN
  go_wp2_with fail
  refine (HT _).out.mono ?_
  rintro e w2 ⟨A2, c2, rfl, hr2, hc2⟩
  have HD2 := Lib.hid (HD1.out.chgNo hc2).at_
  have HC2 := Lib.hid (HC1.out.trans hc2)
  have HR2 := Lib.hid hr2
  clear hr2 hc2
  go_wp2_with fail
  refine (dump3_calls HD2.out A2 c2 HR2.out).mono ?_
  rintro e w3 ⟨rfl, hc3, D3, hd3, hl3⟩
  have HD3 := Lib.hid hd3
  have HL3 := Lib.hid hl3
  have HC3 : Hid (Chg No w w3) := HC2.out.then hc3 (fun i hi hT => by have := HF1.out i hT; omega)
  clear hd3 hc3 hl3
  have HLD : Hid (Calls Try.prog 18 #[.pointer (some ⟨h.d, 0, none⟩), .int .i64 1, .int .i64 1] w3 fun e w' => ∃ v, e = .returned (.tuple #[v, .int .i64 0]) ∧ w'.ownsRow w3.heap.size tItem 5 v 2 (its [xA15, xB15]) ∧ DevN w3.heap.size w' h D3 ∧ Chg h.foot w3 w') := by
    have := load_calls HD3.out 1 1 (by decide) (by decide)
    rw [HL3.out] at this
    exact this
  go_wp2_with fail
  refine HLD.out.mono ?_
  rintro e w4 ⟨v, rfl, ho4, hd4, hc4⟩
  have HC4 : Hid (Chg No w w4) := HC3.out.then hc4 (fun i hi hT => by have := HF1.out i hT; omega)
  obtain ⟨A4, c4, rfl, _, hr4⟩ := own_slice ho4
  have HR4 := Lib.hid hr4
  clear hd4 hc4 ho4 hr4 HLD
  go_wp2_with fail
  refine (HT _).out.mono ?_
  rintro e w5 ⟨A5, c5, rfl, hr5, hc5⟩
  have HC5 := Lib.hid (HC4.out.trans hc5)
  have HR5 := Lib.hid hr5
  have HR45 := Lib.hid (HR4.out.chg hc5 (fun _ _ _ _ h => h))
  clear hr5 hc5
  go_wp2_with fail
  refine (items15_calls tItem tItem A4 A5 c4 c5 [xA15, xB15] [xA15, xB15] _ HR45.out HR5.out (by decide) (by decide)).mono ?_
  rintro e w6 ⟨rfl, hc6⟩
  have HC6 := Lib.hid (HC5.out.trans hc6)
  clear hc6
  go_wp2
  go_ret
  exact ⟨rfl, HC6.out⟩
end Go.Proofs.Ytinofdfjaopdcaa
