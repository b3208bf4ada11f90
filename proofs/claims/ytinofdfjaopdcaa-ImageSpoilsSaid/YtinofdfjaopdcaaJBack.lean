/- ImageBack: the walk. -/
import Derived.Test.YtinofdfjaopdcaaImgE
namespace Go.Proofs.Ytinofdfjaopdcaa
open Go.RowKit
attribute [local go_sem ↓] Go.wp_at_zero Go.wp_at_succ
set_option linter.unusedSimpArgs false
set_option linter.unusedVariables false

theorem fitI_full (room : Int) : ∀ (l : List Item) (acc : Nat), ((acc + isum l : Nat) : Int) ≤ room → fitI room acc l = l.length := by
  intro l
  induction l with
  | nil => intro acc h; rfl
  | cons x r ih =>
    intro acc h
    simp only [isum, List.map_cons, List.sum_cons] at h ih
    rw [fitI, if_pos (by omega), ih _ (by omega), List.length_cons]
theorem isum_take {l : List Item} {k : Nat} {x : Item} (hx : l[k]? = some x) : isum (l.take (k + 1)) = isum (l.take k) + x.size := by
  unfold isum
  rw [List.take_add_one, hx, Option.toList, List.map_append, List.sum_append]
  simp
theorem fit_next {l : List Item} {k : Nat} {x : Item} (room : Int) (hx : l[k]? = some x) (hk : k ≤ l.length) :
    fitI room 0 (l.take (k + 1)) = if ((isum (l.take (k + 1)) : Nat) : Int) ≤ room then k + 1 else fitI room 0 (l.take k) := by
  rw [fit_take room hx hk, isum_take hx]
  by_cases h : ((isum (l.take k) + x.size : Nat) : Int) ≤ room
  · have hf := fitI_full room (l.take k) 0 (by omega)
    rw [List.length_take, Nat.min_eq_left hk] at hf
    rw [if_pos h, if_pos ⟨hf, h⟩]
  · rw [if_neg h, if_neg (fun hh => h hh.2)]
theorem isum_small {l : List Item} {k : Nat} (hg : goods (l.take k) = true) (hk : k ≤ 60) : isum (l.take k) ≤ 78360 := by
  have := isum_le hg
  rw [List.length_take] at this
  omega
theorem new10_calls (w : World) : Calls Try.prog 16 #[.int .i64 10] w fun e w' => ∃ h : DevH, e = .returned (.tuple #[.pointer (some ⟨h.d, 0, none⟩), .int .i64 0]) ∧ DevAt w' h (Dev.new 10) ∧ Chg No w w' ∧ ∀ k, h.foot k → w.heap.size ≤ k := new_calls 10 w (by decide) (by decide)

set_option maxRecDepth 100000 in
set_option maxHeartbeats 2000000 in
theorem jback_calls (pages : Int) (A : Option Addr) (n c : Nat) (l : List Item) (t : TypeId) (w : World) (hp : -9223372036854775808 ≤ pages ∧ pages ≤ 9223372036854775807) (hn : l.length = n) (hnc : n ≤ c) (hr : Rd w t A (n * 5) (its l)) :
    Calls Try.prog 4 #[.int .i64 pages, .slice A n c] w fun e w' => e = .returned (.bool true) ∧ Chg No w w' := by
  have HAW := Lib.hid (awake15_calls w)
  have HN := fun W => Lib.hid (new10_calls W)
  have HR := Lib.hid hr
  have HLN := Lib.hid hn
  clear hr hn
  by_cases hq : pages < 0 ∨ 10 < pages ∨ 60 < n
  · have hb : (if decide (pages < 0) = true then true else if decide (10 < pages) = true then true else decide ((60 : Int) < (n : Int))) = true := by
      by_cases h1 : pages < 0
      · simp [h1]
      · by_cases h2 : 10 < pages
        · simp [h2]
        · have : 60 < n := by omega
          simp [h1, h2]; omega
    by_cases h1 : pages < 0
    · have b1 : decide (pages < 0) = true := by simpa using h1
      clear hq hb HN
      go_enter Try.func4, Try.ntmps4
      go_wp2_with fail
      refine HAW.out.mono ?_
      rintro e w0 ⟨rfl, hc0⟩
      go_wp2
      go_ret
      exact ⟨rfl, hc0⟩
    · have b1 : decide (pages < 0) = false := by simpa using h1
      by_cases h2 : 10 < pages
      · have b2 : decide (10 < pages) = true := by simpa using h2
        clear hq hb HN
        go_enter Try.func4, Try.ntmps4
        go_wp2_with fail
        refine HAW.out.mono ?_
        rintro e w0 ⟨rfl, hc0⟩
        go_wp2
        go_ret
        exact ⟨rfl, hc0⟩
      · have b2 : decide (10 < pages) = false := by simpa using h2
        have b3 : decide ((60 : Int) < (n : Int)) = true := by simp; omega
        have h3 : (60 : Int) < (n : Int) := by omega
        clear hq hb HN
        go_enter Try.func4, Try.ntmps4
        go_wp2_with fail
        refine HAW.out.mono ?_
        rintro e w0 ⟨rfl, hc0⟩
        go_wp2
        go_ret
        exact ⟨rfl, hc0⟩
  · obtain ⟨pg, rfl⟩ : ∃ pg : Nat, pages = pg := ⟨pages.toNat, by omega⟩
    have hpg : pg ≤ 10 := by omega
    have hn60 : n ≤ 60 := by omega
    have b1 : decide ((pg : Int) < 0) = false := by simp
    have b2 : decide ((10 : Int) < (pg : Int)) = false := by simp; omega
    have b3 : decide ((60 : Int) < (n : Int)) = false := by simp; omega
    have g1 : ¬ (pg : Int) < 0 := by omega
    have g2 : ¬ (10 : Int) < (pg : Int) := by omega
    have g3 : ¬ (60 : Int) < (n : Int) := by omega
    have hroom : IntKind.i64.wrap (376 * (pg : Int)) = 376 * (pg : Int) := IntWalk.i64_in _ (by omega)
    have h10 : IntKind.i64.wrap (10 - (pg : Int)) = 10 - (pg : Int) := IntWalk.i64_in _ (by omega)
    clear hq hp
    go_enter Try.func4, Try.ntmps4
    go_wp2_with fail
    refine HAW.out.mono ?_
    rintro e w0 ⟨rfl, hc0⟩
    have HC0 := Lib.hid hc0
    clear hc0 HAW
    go_wp2
    go_loopg [5, 6, 7] n (fun g v5 v6 v7 wr => ∃ (k s f : Nat), v7 = .int .i64 k ∧ k ≤ n ∧ n - k = g ∧ v5 = .int .i64 s ∧ v6 = .int .i64 f ∧
      Hid (s = isum (l.take k) ∧ f = fitI (376 * (pg : Int)) 0 (l.take k) ∧ goods (l.take k) = true ∧ Chg No w wr))
    case atStart => exact ⟨0, 0, 0, rfl, by omega, by omega, rfl, rfl, ⟨rfl, rfl, rfl, HC0.out⟩⟩
    case round =>
      obtain ⟨k, s, f, rfl, hk, hg, rfl, rfl, H⟩ := hrel
      subst hg
      by_cases h0 : k < n
      · obtain ⟨x, hx⟩ : ∃ x, l[k]? = some x := ⟨_, List.getElem?_eq_getElem (by have := HLN.out; omega)⟩
        obtain ⟨g, off, rfl, hc⟩ := rd_at6 HR.out h0 hx
        have HCL := fun W => Lib.hid (hc W)
        obtain ⟨a0, a1, a2, a3, a4⟩ := (HCL wr).out H.out.2.2.2
        have hki : (0 : Int) ≤ (k : Int) := by omega
        have hkn : (k : Int) < (n : Int) := by omega
        have HX := Lib.hid hx
        clear hx hc
        cases hgx : x.good with
        | false =>
          have HGC : ∀ W, Hid (Calls Try.prog 19 #[itemV x] W fun e w' => e = .returned (.bool false) ∧ Chg No W w') := fun W => by have := rgood_calls x W; rw [hgx] at this; exact this
          clear hgx
          go_wp2_with fail
          refine (HGC _).out.mono ?_
          rintro e w6 ⟨rfl, hc6⟩
          have HC6 := Lib.hid (H.out.2.2.2.trans hc6)
          clear hc6
          go_wp2
          go_ret
          exact ⟨rfl, HC6.out⟩
        | true =>
          have HGC : ∀ W, Hid (Calls Try.prog 19 #[itemV x] W fun e w' => e = .returned (.bool true) ∧ Chg No W w') := fun W => by have := rgood_calls x W; rw [hgx] at this; exact this
          have hgx2 := hgx
          simp only [Item.good, Bool.and_eq_true, decide_eq_true_eq] at hgx2
          have hsl : x.size ≤ 1306 := by unfold Item.size; omega
          have HGT : Hid (goods (l.take (k + 1)) = true) := by show _ = _; rw [goods_take HX.out, H.out.2.2.1, hgx]; rfl
          have hsm := isum_small H.out.2.2.1 (by omega)
          rw [← H.out.1] at hsm
          obtain ⟨sz, hsz⟩ : ∃ sz, sz = x.size := ⟨_, rfl⟩
          have HSC : ∀ W, Hid (Calls Try.prog 20 #[itemV x] W fun e w' => e = .returned (.int .i64 sz) ∧ Chg No W w') := fun W => by have := rsize_calls x W (by omega) (by omega); rw [← hsz] at this; exact this
          have HS2 : Hid (s + sz = isum (l.take (k + 1))) := by show _ = _; rw [isum_take HX.out, H.out.1, hsz]
          have HF2 : Hid (fitI (376 * (pg : Int)) 0 (l.take (k + 1)) = if ((s + sz : Nat) : Int) ≤ 376 * (pg : Int) then k + 1 else f) := by
            show _ = _
            rw [fit_next _ HX.out (by have := HLN.out; omega), HS2.out, ← H.out.2.1]
          rw [← hsz] at hsl
          have hws : IntKind.i64.wrap ((s : Int) + (sz : Int)) = (s : Int) + (sz : Int) := IntWalk.i64_in _ (by omega)
          have hwk : IntKind.i64.wrap ((k : Int) + 1) = (k : Int) + 1 := IntWalk.i64_in _ (by omega)
          clear hgx hgx2 hsz
          by_cases hfit : ((s + sz : Nat) : Int) ≤ 376 * (pg : Int)
          · have HF3 : Hid (k + 1 = fitI (376 * (pg : Int)) 0 (l.take (k + 1))) := by show _ = _; rw [HF2.out, if_pos hfit]
            have b4 : decide ((s : Int) + (sz : Int) ≤ 376 * (pg : Int)) = true := by simp; omega
            have g4 : (s : Int) + (sz : Int) ≤ 376 * (pg : Int) := by omega
            clear hfit HF2
            go_wp2_with fail
            refine (HGC _).out.mono ?_
            rintro e w6 ⟨rfl, hc6⟩
            have HC6 := Lib.hid (H.out.2.2.2.trans hc6)
            clear hc6 a0 a1 a2 a3 a4
            obtain ⟨a0, a1, a2, a3, a4⟩ := (HCL w6).out HC6.out
            go_wp2_with fail
            refine (HSC _).out.mono ?_
            rintro e w7 ⟨rfl, hc7⟩
            have HC7 := Lib.hid (HC6.out.trans hc7)
            clear hc7
            go_wp2
            go_roundg (n - (k + 1))
            case measure => omega
            case rel => exact ⟨k + 1, s + sz, k + 1, by go_num, by omega, rfl, by go_num, by go_num, ⟨HS2.out, HF3.out, HGT.out, HC7.out⟩⟩
          · have HF3 : Hid (f = fitI (376 * (pg : Int)) 0 (l.take (k + 1))) := by show _ = _; rw [HF2.out, if_neg hfit]
            have b4 : decide ((s : Int) + (sz : Int) ≤ 376 * (pg : Int)) = false := by simp; omega
            have g4 : ¬ (s : Int) + (sz : Int) ≤ 376 * (pg : Int) := by omega
            clear hfit HF2
            go_wp2_with fail
            refine (HGC _).out.mono ?_
            rintro e w6 ⟨rfl, hc6⟩
            have HC6 := Lib.hid (H.out.2.2.2.trans hc6)
            clear hc6 a0 a1 a2 a3 a4
            obtain ⟨a0, a1, a2, a3, a4⟩ := (HCL w6).out HC6.out
            go_wp2_with fail
            refine (HSC _).out.mono ?_
            rintro e w7 ⟨rfl, hc7⟩
            have HC7 := Lib.hid (HC6.out.trans hc7)
            clear hc7
            go_wp2
            go_roundg (n - (k + 1))
            case measure => omega
            case rel => exact ⟨k + 1, s + sz, f, by go_num, by omega, rfl, by go_num, rfl, ⟨HS2.out, HF3.out, HGT.out, HC7.out⟩⟩
      · obtain rfl : n = k := by omega
        have HF : Hid (f = fitI (376 * (pg : Int)) 0 l) := by have := H.out.2.1; rwa [List.take_of_length_le (by have := HLN.out; omega)] at this
        have HG : Hid (goods l = true) := by have := H.out.2.2.1; rwa [List.take_of_length_le (by have := HLN.out; omega)] at this
        have HCR := Lib.hid H.out.2.2.2
        clear H h0 hk
        go_wp2_with fail
        refine (HN _).out.mono ?_
        rintro e w1 ⟨h, rfl, hd1, hc1, hf1⟩
        have HD1 := Lib.hid hd1
        have HC1 := Lib.hid (HCR.out.trans hc1)
        have HF1 : Hid (∀ k, h.foot k → w.heap.size ≤ k) := fun k hk => Nat.le_trans HCR.out.size (hf1 k hk)
        have hmay : (Dev.new 10).may (10 - (pg : Int)) (pg : Int) = true := by
          have := may_of (D := Dev.new 10) (f := 10 - pg) (p := pg) (by show 10 - pg + pg ≤ 10; omega)
          rwa [show ((10 - pg : Nat) : Int) = 10 - (pg : Int) by omega] at this
        have HDU := Lib.hid (dump_calls hd1 (10 - (pg : Int)) (pg : Int) (by omega) (by omega) A n c l t HLN.out (HR.out.chg HC1.out (fun _ _ _ _ h => h)) (by omega))
        have HMA := Lib.hid hmay
        clear hd1 hc1 hf1 HN hmay
        go_wp2_with fail
        refine HDU.out.mono ?_
        rintro e w2 ⟨p, m, er, D2, rfl, hd2, hc2, hR⟩
        have hgood := hR.good (new_Ok 10) HMA.out HG.out
        have HB := Lib.hid (hR.back (new_Ok 10) HMA.out HG.out (by decide))
        obtain ⟨rfl, e2, e3, e4, e5⟩ := hgood
        obtain rfl : f = m := by rw [e2, HF.out]
        have hml : f ≤ n := by have := hR.sized; have := HLN.out; omega
        have hpp : p ≤ pg := by omega
        have HD2 := Lib.hid hd2
        have HC2 : Hid (Chg No w w2) := HC1.out.then hc2 (fun i hi hT => by have := HF1.out i hT; omega)
        have b5 : decide ((pg : Int) < (p : Int)) = false := by simp; omega
        have g5 : ¬ (pg : Int) < (p : Int) := by omega
        have hld := load_calls hd2 (10 - (pg : Int)) (p : Int) (by omega) (by omega)
        rw [HB.out] at hld
        have HLD := Lib.hid hld
        obtain ⟨A9, hs9, hd9⟩ := sub_slice_h (P := Try.prog) Try.underlying33 ti_item A n c f (by omega)
        have hlt : (l.take f).length = f := by rw [List.length_take]; have := HLN.out; omega
        have HLT := Lib.hid hlt
        have HR9 : ∀ W, Hid (Chg No w W → Rd W t A9 (f * 5) (its (l.take f))) := fun W => fun hc => by rw [its_take]; exact hd9 W t (its l) (HR.out.chg hc (fun _ _ _ _ h => h)) hml
        clear e2 e3 e4 e5 hd2 hc2 hR hld hlt hd9 HDU
        go_wp2_with fail
        refine HLD.out.mono ?_
        rintro e w3 ⟨v3, rfl, ho3, hd3, hc3⟩
        have HC3 : Hid (Chg No w w3) := HC2.out.then hc3 (fun i hi hT => by have := HF1.out i hT; omega)
        simp only [HLT.out] at ho3
        obtain ⟨A3, c3, rfl, _, hr3⟩ := own_slice ho3
        have HIT := Lib.hid (items15_calls tItem t A3 A9 c3 c (l.take f) (l.take f) w3 (by rw [HLT.out]; exact hr3) (by rw [HLT.out]; exact (HR9 w3).out HC3.out) (by rw [HLT.out]; omega) (by rw [HLT.out]; omega))
        rw [HLT.out, decide_eq_true rfl] at HIT
        clear ho3 hd3 hc3 hr3
        go_wp2_with fail
        refine HIT.out.mono ?_
        rintro e w4 ⟨rfl, hc4⟩
        have HC4 := Lib.hid (HC3.out.trans hc4)
        clear hc4
        go_wp2
        go_ret
        exact ⟨rfl, HC4.out⟩
end Go.Proofs.Ytinofdfjaopdcaa
