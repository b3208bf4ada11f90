/- ImageLasts: the walk. -/
import Derived.Test.YtinofdfjaopdcaaImgE
import Derived.Test.YtinofdfjaopdcaaImgM
import Derived.Test.YtinofdfjaopdcaaFlashG
namespace Go.Proofs.Ytinofdfjaopdcaa
open Go.RowKit
attribute [local go_sem ↓] Go.wp_at_zero Go.wp_at_succ
set_option linter.unusedSimpArgs false
set_option linter.unusedVariables false

theorem new60_calls (w : World) : Calls Try.prog 16 #[.int .i64 60] w fun e w' => ∃ h : DevH, e = .returned (.tuple #[.pointer (some ⟨h.d, 0, none⟩), .int .i64 0]) ∧ DevAt w' h (Dev.new 60) ∧ Chg No w w' ∧ ∀ k, h.foot k → w.heap.size ≤ k := new_calls 60 w (by decide) (by decide)

set_option maxRecDepth 100000 in
set_option maxHeartbeats 2000000 in
theorem jlasts_calls (arm : Int) (A A2 : Option Addr) (n c n2 c2 : Nat) (l : List Item) (picks : List UInt8) (t t2 : TypeId) (w : World) (harm : arm ≤ 9223372036854775807) (hn : l.length = n) (hnc : n ≤ c) (hr : Rd w t A (n * 5) (its l)) (hn2 : picks.length = n2) (hr2 : Rd w t2 A2 n2 (bys picks)) :
    Calls Try.prog 11 #[.slice A n c, .int .i64 arm, .slice A2 n2 c2] w fun e w' => e = .returned (.bool true) ∧ Chg No w w' := by
  have HAW := Lib.hid (awake15_calls w)
  have HN := fun W => Lib.hid (new60_calls W)
  have HR := Lib.hid hr
  have HR2 := Lib.hid hr2
  have HLN := Lib.hid hn
  have HLN2 := Lib.hid hn2
  have HARM := Lib.hid harm
  clear hr hn hr2 hn2 harm
  by_cases h1 : 30 < n
  · have b1 : decide ((30 : Int) < (n : Int)) = true := by simp; omega
    have g1 : (30 : Int) < (n : Int) := by omega
    clear h1 HN
    go_enter Try.func11, Try.ntmps11
    go_wp2_with fail
    refine HAW.out.mono ?_
    rintro e w0 ⟨rfl, hc0⟩
    go_wp2
    go_ret
    exact ⟨rfl, hc0⟩
  · have b1 : decide ((30 : Int) < (n : Int)) = false := by simp; omega
    have g1 : ¬ (30 : Int) < (n : Int) := by omega
    have hn30 : n ≤ 30 := by omega
    clear h1
    go_enter Try.func11, Try.ntmps11
    go_wp2_with fail
    refine HAW.out.mono ?_
    rintro e w0 ⟨rfl, hc0⟩
    have HC0 := Lib.hid hc0
    clear hc0 HAW
    go_wp2
    go_loopg [7] n (fun g v7 wr => ∃ k : Nat, v7 = .int .i64 k ∧ k ≤ n ∧ n - k = g ∧ Hid (goods (l.take k) = true ∧ Chg No w wr))
    case atStart => exact ⟨0, rfl, by omega, by omega, ⟨rfl, HC0.out⟩⟩
    case round =>
      obtain ⟨k, rfl, hk, hg, H⟩ := hrel
      subst hg
      by_cases h0 : k < n
      · obtain ⟨x, hx⟩ : ∃ x, l[k]? = some x := ⟨_, List.getElem?_eq_getElem (by have := HLN.out; omega)⟩
        obtain ⟨g, off, rfl, hc⟩ := rd_at6 HR.out h0 hx
        have HCL := fun W => Lib.hid (hc W)
        obtain ⟨a0, a1, a2, a3, a4⟩ := (HCL wr).out H.out.2
        have hki : (0 : Int) ≤ (k : Int) := by omega
        have hkn : (k : Int) < (n : Int) := by omega
        have HX := Lib.hid hx
        clear hx hc
        cases hgx : x.good with
        | false =>
          have HGC : ∀ W, Hid (Calls Try.prog 19 #[itemV x] W fun e w' => e = .returned (.bool false) ∧ Chg No W w') := fun W => by have := rgood_calls x W; rw [hgx] at this; exact this
          clear hgx
          go_wp2_with fail
          refine (HGC _).out.mono ?_
          rintro e w6 ⟨rfl, hc6⟩
          have HC6 := Lib.hid (H.out.2.trans hc6)
          clear hc6
          go_wp2
          go_ret
          exact ⟨rfl, HC6.out⟩
        | true =>
          have HGC : ∀ W, Hid (Calls Try.prog 19 #[itemV x] W fun e w' => e = .returned (.bool true) ∧ Chg No W w') := fun W => by have := rgood_calls x W; rw [hgx] at this; exact this
          have HGT : Hid (goods (l.take (k + 1)) = true) := by show _ = _; rw [goods_take HX.out, H.out.1, hgx]; rfl
          clear hgx
          go_wp2_with fail
          refine (HGC _).out.mono ?_
          rintro e w6 ⟨rfl, hc6⟩
          have HC6 := Lib.hid (H.out.2.trans hc6)
          clear hc6
          go_wp2
          go_roundg (n - (k + 1))
          case measure => omega
          case rel => exact ⟨k + 1, by go_num, by omega, rfl, ⟨HGT.out, HC6.out⟩⟩
      · obtain rfl : n = k := by omega
        have HG : Hid (goods l = true) := by have := H.out.1; rwa [List.take_of_length_le (by have := HLN.out; omega)] at this
        have HCR := Lib.hid H.out.2
        clear H h0 hk
        go_wp2_with fail
        refine (HN _).out.mono ?_
        rintro e w1 ⟨h, rfl, hd1, hc1, hf1⟩
        have HC1 := Lib.hid (HCR.out.trans hc1)
        have HF1 : Hid (∀ k, h.foot k → w.heap.size ≤ k) := fun k hk => Nat.le_trans HCR.out.size (hf1 k hk)
        have HFA : ∀ W, Hid (Chg No w W → ∀ W', Chg h.foot W W' → Chg No w W') := fun W => fun h1 W' h2 => h1.then h2 (fun i hi hT => by have := HF1.out i hT; omega)
        have HARMC := Lib.hid (arm_calls hd1 arm HARM.out)
        obtain ⟨D0, hD0⟩ : ∃ D0, D0 = (Dev.new 60).arm arm := ⟨_, rfl⟩
        rw [← hD0] at HARMC
        have h60 : D0.n = 60 := by rw [hD0]; rfl
        have hmay : D0.may 0 60 = true := may_of (f := 0) (p := 60) (by rw [h60]; omega)
        have HM := Lib.hid hmay
        have H60 := Lib.hid h60
        clear hd1 hc1 hf1 HN hD0 h60 hmay
        go_wp2_with fail
        refine HARMC.out.mono ?_
        rintro e w2 ⟨rfl, hd2, hc2⟩
        have HC2 := Lib.hid ((HFA _).out HC1.out _ hc2)
        have HDU := Lib.hid (dump_calls hd2 0 60 (by decide) (by decide) A n c l t HLN.out (HR.out.chg HC2.out (fun _ _ _ _ h => h)) (by omega))
        clear hd2 hc2 HARMC
        go_wp2_with fail
        refine HDU.out.mono ?_
        rintro e w3 ⟨p, m, er, D3, rfl, hd3, hc3, hR⟩
        have HC3 := Lib.hid ((HFA _).out HC2.out _ hc3)
        have HLA := Lib.hid (hR.lasts HM.out HG.out (by rw [H60.out]; omega) picks)
        have hml : m ≤ n := by have := hR.sized; have := HLN.out; omega
        have HCRA := Lib.hid (crash_calls hd3 A2 n2 c2 picks t2 HLN2.out (fun W hc => HR2.out.chg ((HFA _).out HC3.out _ hc) (fun _ _ _ _ h => h)))
        clear hd3 hc3 hR HDU
        go_wp2_with fail
        refine HCRA.out.mono ?_
        rintro e w4 ⟨rfl, hd4, hc4⟩
        have HC4 := Lib.hid ((HFA _).out HC3.out _ hc4)
        have HON := Lib.hid (on_calls hd4)
        clear hd4 hc4 HCRA
        go_wp2_with fail
        refine HON.out.mono ?_
        rintro e w5 ⟨rfl, hd5, hc5⟩
        have HC5 := Lib.hid ((HFA _).out HC4.out _ hc5)
        have HD5 := Lib.hid hd5
        clear hd5 hc5 HON
        rcases HLA.out with rfl | ⟨rfl, hp, hl⟩
        · clear HLA
          go_wp2
          go_ret
          exact ⟨rfl, HC5.out⟩
        · have hld := load_calls HD5.out 0 (p : Int) (by decide) (by omega)
          rw [hl] at hld
          have HLD := Lib.hid hld
          obtain ⟨A9, hs9, hd9⟩ := sub_slice_h (P := Try.prog) Try.underlying33 ti_item A n c m (by omega)
          have hlt : (l.take m).length = m := by rw [List.length_take]; have := HLN.out; omega
          have HLT := Lib.hid hlt
          have HR9 : ∀ W, Hid (Chg No w W → Rd W t A9 (m * 5) (its (l.take m))) := fun W => fun hc => by rw [its_take]; exact hd9 W t (its l) (HR.out.chg hc (fun _ _ _ _ h => h)) hml
          clear hl hld hlt hd9 HLA hp
          go_wp2_with fail
          refine HLD.out.mono ?_
          rintro e w6 ⟨v6, rfl, ho6, hd6, hc6⟩
          have HC6 := Lib.hid ((HFA _).out HC5.out _ hc6)
          simp only [HLT.out] at ho6
          obtain ⟨A6, c6, rfl, _, hr6⟩ := own_slice ho6
          have HIT := Lib.hid (items15_calls tItem t A6 A9 c6 c (l.take m) (l.take m) w6 (by rw [HLT.out]; exact hr6) (by rw [HLT.out]; exact (HR9 w6).out HC6.out) (by rw [HLT.out]; omega) (by rw [HLT.out]; omega))
          rw [HLT.out, decide_eq_true rfl] at HIT
          clear ho6 hd6 hc6 hr6
          go_wp2_with fail
          refine HIT.out.mono ?_
          rintro e w7 ⟨rfl, hc7⟩
          have HC7 := Lib.hid (HC6.out.trans hc7)
          clear hc7
          go_wp2
          go_ret
          exact ⟨rfl, HC7.out⟩
end Go.Proofs.Ytinofdfjaopdcaa
