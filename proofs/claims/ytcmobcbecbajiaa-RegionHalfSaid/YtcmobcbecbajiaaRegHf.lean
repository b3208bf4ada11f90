/- RegionHalf, walked. -/
import Derived.Test.YtcmobcbecbajiaaRegO
namespace Go.Proofs.Ytcmobcbecbajiaa
open Go.RowKit
open Go.ChangeMaps (setBlock)
attribute [local go_sem ↓] Go.wp_at_zero Go.wp_at_succ
set_option linter.unusedSimpArgs false
set_option linter.unusedVariables false

theorem rd_two8 (W : World) : Rd (W.alloc (.cells #[.int .u8 2] tU8)) tU8 (some ⟨W.heap.size, 0, none⟩) 1 (bys [2]) := by
  have := Rd.ofBlk (k := 1) (Blk.new W tU8 #[.int .u8 2]) (by simp)
  simpa [bys] using this

set_option maxRecDepth 100000 in
set_option maxHeartbeats 8000000 in
theorem rhalf_calls (A : Option Addr) (n c : Nat) (l : List Item) (te : TypeId) (z y : Int) (w : World) (hn : l.length = n) (hr : Rd w te A (n * 5) (its l)) (hs : ∀ x ∈ l, x.key.size ≤ 140737488351232 ∧ x.val.size ≤ 140737488351232) (hnm : n ≤ 9223372036854775807) :
    Calls Try.prog 12 #[.slice A n c, .int .i64 z, .int .i64 y] w fun e w' => e = .returned (.bool true) ∧ Chg No w w' := by
  have HA := Lib.hid (awake9_calls w)
  have HN := fun W => Lib.hid (new_calls 4 W (by omega) (by omega))
  have HR := Lib.hid hr
  have HNL := Lib.hid hn
  have HS := Lib.hid hs
  clear hr hn hs
  by_cases h1 : n = 0
  · subst h1
    go_enter Try.func12, Try.ntmps12
    go_wp2_with fail
    refine HA.out.mono ?_
    rintro e w0 ⟨rfl, hc0⟩
    have HC0 := Lib.hid hc0
    clear hc0 HA HN
    go_wp2
    go_ret
    exact ⟨rfl, HC0.out⟩
  have n0 : ((n : Int) == 0) = false := by simp; omega
  have n0' : ¬ (n : Int) = 0 := by omega
  by_cases h2 : 20 < n
  · have b2 : (20 : Int) < (n : Int) := by omega
    clear h1
    go_enter Try.func12, Try.ntmps12
    go_wp2_with fail
    refine HA.out.mono ?_
    rintro e w0 ⟨rfl, hc0⟩
    have HC0 := Lib.hid hc0
    clear hc0 HA HN
    go_wp2
    go_ret
    exact ⟨rfl, HC0.out⟩
  have b2 : ¬ (20 : Int) < (n : Int) := by omega
  by_cases h3 : z < 0
  · clear h1 h2
    go_enter Try.func12, Try.ntmps12
    go_wp2_with fail
    refine HA.out.mono ?_
    rintro e w0 ⟨rfl, hc0⟩
    have HC0 := Lib.hid hc0
    clear hc0 HA HN
    go_wp2
    go_ret
    exact ⟨rfl, HC0.out⟩
  by_cases h4 : 3 < z
  · clear h1 h2
    go_enter Try.func12, Try.ntmps12
    go_wp2_with fail
    refine HA.out.mono ?_
    rintro e w0 ⟨rfl, hc0⟩
    have HC0 := Lib.hid hc0
    clear hc0 HA HN
    go_wp2
    go_ret
    exact ⟨rfl, HC0.out⟩
  obtain ⟨p, rfl⟩ := Int.eq_ofNat_of_zero_le (show 0 ≤ z by omega)
  have hp4 : p < 4 := by omega
  have hn20 : n ≤ 20 := by omega
  clear h1 h2 h3 h4
  have p3 : ¬ (3 : Int) < (p : Int) := by omega
  go_enter Try.func12, Try.ntmps12
  go_wp2_with fail
  refine HA.out.mono ?_
  rintro e w0 ⟨rfl, hc0⟩
  have HC0 := Lib.hid hc0
  clear hc0 HA
  go_wp2_with fail
  refine (HN _).out.mono ?_
  rintro e w1 ⟨h, rfl, hd1, hc1, hf1⟩
  have HOP := Lib.hid (Hlog.opened (first := 0) (n := 1) hd1 hf1 hc1 (by omega) (by omega) (by show 0 + 4 * 1 ≤ (4 : Nat); omega) rfl)
  rw [show Dev.new (4 : Int).toNat = Dev.new 4 from rfl] at HOP
  have HF := Lib.hid hf1
  clear hd1 hc1 hf1 HN
  go_wp2_with fail
  refine HOP.out.mono ?_
  rintro e w2 ⟨t0, rfl, hh2, _, hc2⟩
  have HH2 := Lib.hid hh2
  have HO0 := Lib.hid oneR_new
  obtain ⟨G0, hG0⟩ : ∃ G0, G0 = Lg.opened (Dev.new 4) 0 1 := ⟨_, rfl⟩
  rw [← hG0] at HH2 HO0
  clear hh2 hc2 HOP hG0
  go_wp2
  go_loopg [11] n (fun gk vi wr => ∃ i : Nat, gk = n - i ∧ i ≤ n ∧ vi = .int .i64 i ∧ Hid (∃ (t : LgH) (G : Lg) (D : Dev), t.L = t0.L ∧ Hlog w0 h t G D wr ∧ OneR G D i))
  case atStart => exact ⟨0, rfl, Nat.zero_le _, rfl, t0, G0, Dev.new 4, rfl, HH2.out, HO0.out⟩
  case round =>
    obtain ⟨i, rfl, hi, rfl, t, G, D, hL, HH, HO⟩ := hrel
    by_cases hlt : i < n
    · obtain ⟨x, hx⟩ : ∃ x, l[i]? = some x := ⟨_, List.getElem?_eq_getElem (by rw [HNL.out]; exact hlt)⟩
      have hsx := HS.out x (List.mem_of_getElem? hx)
      obtain ⟨g, off, hA, hg, hc⟩ := (HR.out.chg (HC0.out.trans HH.chg) (fun _ _ _ _ h => h)).at_ (j := i * 5) (by omega)
      subst hA
      have c0 := hc (i * 5 + 0) _ (its_get l i 0 x hx (by omega))
      have c1 := hc (i * 5 + 1) _ (its_get l i 1 x hx (by omega))
      have c2 := hc (i * 5 + 2) _ (its_get l i 2 x hx (by omega))
      have c3 := hc (i * 5 + 3) _ (its_get l i 3 x hx (by omega))
      have c4 := hc (i * 5 + 4) _ (its_get l i 4 x hx (by omega))
      simp only [itc, List.getElem_cons_zero, List.getElem_cons_succ, ← Nat.add_assoc, Nat.add_zero] at c0 c1 c2 c3 c4
      have hii : (i : Int) < (n : Int) := by omega
      have HPUT := Lib.hid (HH.put x hsx.1 hsx.2)
      rw [hL] at HPUT
      have HO2 := Lib.hid (HO.put (by omega) x)
      have HLL := Lib.hid hL
      obtain ⟨R, hR⟩ : ∃ R, R = G.put D x := ⟨_, rfl⟩
      rw [← hR] at HPUT HO2
      clear hsx hx hc HO hL hR HH HH2 HO0
      go_wp2_with fail
      refine HPUT.out.mono ?_
      rintro e w3 ⟨v3, t3, rfl, hp⟩
      have HH3 := Lib.hid hp.st
      have HL3 : Hid (t3.L = t0.L) := hp.L.trans HLL.out
      clear hp HPUT
      go_wp2
      go_roundg (n - (i + 1))
      case measure => omega
      case rel => exact ⟨i + 1, rfl, by omega, by go_num, t3, _, _, HL3.out, HH3.out, HO2.out⟩
    · obtain rfl : i = n := by omega
      have HSE := Lib.hid HH.shut
      have hsl := HO.sl (by omega)
      rw [hL, hsl.1] at HSE
      obtain ⟨G2, D2, lost, er, hRe⟩ : ∃ G2 D2 lost er, G.sl D = ⟨G2, D2, lost, er⟩ := ⟨_, _, _, _, rfl⟩
      rw [hRe] at HSE hsl
      have HO2 : Hid (OneR G2 D2 (i + 1)) := hsl.2.1
      have HLL := Lib.hid hL
      clear hlt hsl hRe HH2 HO0
      go_wp2_with fail
      refine HSE.out.mono ?_
      rintro e w3 ⟨v3, t3, rfl, hp⟩
      have HH3 : Hid (Hlog w0 h t3 G2 D2 w3) := hp.st
      have HL3 : Hid (t3.L = t0.L) := hp.L.trans HLL.out
      have HNU := fun W => Lib.hid (fun hc : Chg No w3 W => gnum_calls (HH3.out.log.chgNo hc))
      rw [HL3.out] at HNU
      obtain ⟨num, hnum⟩ : ∃ num, num = G2.number := ⟨_, rfl⟩
      rw [← hnum] at HNU
      have HNM := Lib.hid hnum
      clear hp HSE hnum
      by_cases h0 : num = 0
      · subst h0
        simp only [Int.natCast_zero] at HNU
        go_wp2_with fail
        refine ((HNU _).out (by (repeat (first | (with_reducible exact Chg.refl _ _) | (with_reducible assumption) | (with_reducible refine Chg.drewN ?_ _) | (with_reducible refine Chg.drew ?_) | (with_reducible refine Chg.alloc ?_ _) | (with_reducible refine Chg.setCell ?_ (by first | (left; simp [DevH.foot]; done) | (right; simp; done) | (right; simp; omega)) _))))).mono ?_
        rintro e w4 ⟨rfl, rfl⟩
        go_wp2
        go_ret
        exact ⟨rfl, HC0.out.trans HH3.out.chg⟩
      · have q0 : ((num : Int) == 0) = false := by simp; omega
        have q0' : ¬ (num : Int) = 0 := by omega
        go_wp2_with fail
        refine ((HNU _).out (by (repeat (first | (with_reducible exact Chg.refl _ _) | (with_reducible assumption) | (with_reducible refine Chg.drewN ?_ _) | (with_reducible refine Chg.drew ?_) | (with_reducible refine Chg.alloc ?_ _) | (with_reducible refine Chg.setCell ?_ (by first | (left; simp [DevH.foot]; done) | (right; simp; done) | (right; simp; omega)) _))))).mono ?_
        rintro e w4 ⟨rfl, rfl⟩
        have HFIN : ∀ W D', Hid (Hlog w0 h t3 G2 D' W → D'.n = 4 → D'.On → Calls Try.prog 24 #[.pointer (some ⟨h.d, 0, none⟩), .int .i64 0, .int .i64 1] W fun e w' => ∃ t' : LgH, e = .returned (.tuple #[.pointer (some ⟨t'.L, 0, none⟩), .int .i64 0]) ∧ Hlog w0 h t' (Lg.opened D' 0 1) D' w' ∧ LgAt w' h t3 G2) := fun W D' => fun H a b => H.reopen a b
        have HG0 : Hid (G2.number ≠ 0) := by show _ ≠ _; rw [← HNM.out]; exact h0
        have HON2 := Lib.hid HO2.out.live.on
        have HN2 := Lib.hid HO2.out.pages
        have HWT := Lib.hid (HO2.out.wait HG0.out)
        obtain ⟨Q, hQ⟩ : ∃ Q, bits .and .i64 y 1 = Q := ⟨_, rfl⟩
        by_cases k0 : Q = 0
        · obtain rfl : 0 = Q := k0.symm
          have HP := Lib.hid (page_erased HN2.out HON2.out hp4)
          have HFG := Lib.hid (HO2.out.gone (by omega) HG0.out hp4 (.inl rfl) HP.out.2.2)
          have HER := Lib.hid (erase_calls HH3.out.dev (p : Int))
          clear k0
          go_wp2_with fail
          refine HER.out.mono ?_
          rintro e w4 ⟨rfl, hd4, hc4⟩
          have HH4 := Lib.hid (HH3.out.flash hd4 hc4)
          have HFL := Lib.hid (flush_calls hd4)
          clear hd4 hc4 HER
          go_wp2_with fail
          refine HFL.out.mono ?_
          rintro e w5 ⟨rfl, hd5, hc5⟩
          have HFH := Lib.hid (HH4.out.flash hd5 hc5)
          have HFN := Lib.hid HP.out.2.1
          have HFO := Lib.hid HP.out.1
          clear hd5 hc5 HFL
          go_wp2_with fail
          refine ((HFIN _ _).out HFH.out HFN.out HFO.out).mono ?_
          rintro e w8 ⟨t8, rfl, hh8, hl8⟩
          have HH8 := Lib.hid hh8
          have HN8 := fun W => Lib.hid (fun hc : Chg No w8 W => gnum_calls (hh8.log.chgNo hc))
          have HNG := fun W => Lib.hid (fun hc : Chg No w8 W => gnum_calls (hl8.chgNo hc))
          rw [HFG.out.2, ← HNM.out] at HN8
          rw [HL3.out, ← HNM.out] at HNG
          have HI8 := Lib.hid (hh8.items0 HFG.out.1)
          clear hh8 hl8 HFIN
          go_wp2_with fail
          refine HI8.out.mono ?_
          rintro e w9 ⟨A9, c9, rfl, hc9⟩
          have HC9 := Lib.hid hc9
          clear hc9
          go_wp2_with fail
          refine ((HN8 _).out HC9.out).mono ?_
          rintro e w10 ⟨rfl, rfl⟩
          go_wp2_with fail
          refine ((HNG _).out HC9.out).mono ?_
          rintro e w11 ⟨rfl, rfl⟩
          go_wp2
          go_ret
          exact ⟨rfl, HC0.out.trans (HH8.out.chg.trans HC9.out)⟩
        have k0' : (Q == 0) = false := by simpa using k0
        have HP := Lib.hid (page_torn HN2.out HON2.out HWT.out hp4 (b := []) (by decide))
        have HFG := Lib.hid (HO2.out.gone (by omega) HG0.out hp4 (.inr rfl) HP.out.2.2)
        have HWR := Lib.hid (write_calls HH3.out.dev (p : Int) none 0 0 [] (Rd.nil _ _ _) (by omega))
        go_wp2_with fail
        refine HWR.out.mono ?_
        rintro e w4 ⟨rfl, hd4, hc4⟩
        have HH4 := Lib.hid (HH3.out.flash hd4 hc4)
        have HCRA : ∀ W, Hid (Chg No w4 W → ∀ A, Rd W tU8 A 1 (bys [2]) → Calls Try.prog 39 #[.pointer (some ⟨h.d, 0, none⟩), .slice A 1 1] W fun e w' => e = .returned (.tuple #[]) ∧ DevAt w' h ((D2.write p []).crash [2]) ∧ Chg h.foot W w') := fun W => fun hc A hr =>
          crash_calls ((DevN.chgNo HH4.out.dev hc).at_) A 1 1 [2] tU8 rfl (fun W' hc' => hr.chg hc' (fun g cur fz hg => DevN.not_foot (DevN.chgNo HH4.out.dev hc) hg (by decide) (by decide)))
        clear hd4 hc4 HWR
        go_wp2_with fail
        refine ((HCRA _).out (by (repeat (first | (with_reducible exact Chg.refl _ _) | (with_reducible assumption) | (with_reducible refine Chg.drewN ?_ _) | (with_reducible refine Chg.drew ?_) | (with_reducible refine Chg.alloc ?_ _) | (with_reducible refine Chg.setCell ?_ (by first | (left; simp [DevH.foot]; done) | (right; simp; done) | (right; simp; omega)) _)))) _ (rd_two8 _)).mono ?_
        rintro e w5 ⟨rfl, hd5, hc5⟩
        have HH5 := Lib.hid ((HH4.out.chgNo (by (repeat (first | (with_reducible exact Chg.refl _ _) | (with_reducible assumption) | (with_reducible refine Chg.drewN ?_ _) | (with_reducible refine Chg.drew ?_) | (with_reducible refine Chg.alloc ?_ _) | (with_reducible refine Chg.setCell ?_ (by first | (left; simp [DevH.foot]; done) | (right; simp; done) | (right; simp; omega)) _))))).flash hd5 hc5)
        have HON := Lib.hid (on_calls hd5)
        clear hd5 hc5 HCRA
        go_wp2_with fail
        refine HON.out.mono ?_
        rintro e w6 ⟨rfl, hd6, hc6⟩
        have HFH := Lib.hid (HH5.out.flash hd6 hc6)
        have HFN := Lib.hid HP.out.2.1
        have HFO := Lib.hid HP.out.1
        clear hd6 hc6 HON
        go_wp2_with fail
        refine ((HFIN _ _).out HFH.out HFN.out HFO.out).mono ?_
        rintro e w8 ⟨t8, rfl, hh8, hl8⟩
        have HH8 := Lib.hid hh8
        have HN8 := fun W => Lib.hid (fun hc : Chg No w8 W => gnum_calls (hh8.log.chgNo hc))
        have HNG := fun W => Lib.hid (fun hc : Chg No w8 W => gnum_calls (hl8.chgNo hc))
        rw [HFG.out.2, ← HNM.out] at HN8
        rw [HL3.out, ← HNM.out] at HNG
        have HI8 := Lib.hid (hh8.items0 HFG.out.1)
        clear hh8 hl8 HFIN
        go_wp2_with fail
        refine HI8.out.mono ?_
        rintro e w9 ⟨A9, c9, rfl, hc9⟩
        have HC9 := Lib.hid hc9
        clear hc9
        go_wp2_with fail
        refine ((HN8 _).out HC9.out).mono ?_
        rintro e w10 ⟨rfl, rfl⟩
        go_wp2_with fail
        refine ((HNG _).out HC9.out).mono ?_
        rintro e w11 ⟨rfl, rfl⟩
        go_wp2
        go_ret
        exact ⟨rfl, HC0.out.trans (HH8.out.chg.trans HC9.out)⟩
end Go.Proofs.Ytcmobcbecbajiaa
